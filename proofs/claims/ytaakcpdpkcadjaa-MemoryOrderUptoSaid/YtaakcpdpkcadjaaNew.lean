/-
  What uniq.New makes, and what the methods of an index return, walked once.
-/
import Derived.Test.YtaakcpdpkcadjaaUniq2
namespace Go.Proofs.Ytaakcpdpkcadjaa
open Go.RowKit
/-- an index of a configuration lies at block g -/
structure IdxAt (w : World) (B g : Nat) (c : Cfg) : Prop where
  lt : g < B
  maps : ∃ b1 b2 b3 b4, b1 < B ∧ b2 < B ∧ b3 < B ∧ b4 < B ∧ w.cell? ⟨g, 0, none⟩ = some (.map (some b1)) ∧ w.cell? ⟨g, 1, none⟩ = some (.map (some b2)) ∧ w.cell? ⟨g, 2, none⟩ = some (.map (some b3)) ∧ w.cell? ⟨g, 3, none⟩ = some (.map (some b4)) ∧
    MapIs w Try.prog 41 kU vI b1 (places [] 0 (c.parts.map (·.id))) ∧ MapIs w Try.prog 41 kU vI b2 (places [] 0 (c.ports.map (·.id))) ∧
    MapIs w Try.prog 41 kU vI b3 (places [] 0 (c.chans.map (·.id))) ∧ MapIs w Try.prog 99 kN vI b4 (places [] 0 (c.ports.map Prt.key))
theorem IdxAt.below {w w' : World} {B g : Nat} {c : Cfg} (h : IdxAt w B g c) (hb : Below B w w') : IdxAt w' B g c := by
  obtain ⟨hg, b1, b2, b3, b4, l1, l2, l3, l4, c1, c2, c3, c4, m1, m2, m3, m4⟩ := h
  exact ⟨hg, b1, b2, b3, b4, l1, l2, l3, l4, (hb.cell (p := ⟨g, 0, none⟩) hg).trans c1, (hb.cell (p := ⟨g, 1, none⟩) hg).trans c2, (hb.cell (p := ⟨g, 2, none⟩) hg).trans c3, (hb.cell (p := ⟨g, 3, none⟩) hg).trans c4,
    m1.below hb l1, m2.below hb l2, m3.below hb l3, m4.below hb l4⟩
theorem IdxAt.more {w : World} {B B' g : Nat} {c : Cfg} (h : IdxAt w B g c) (hB : B ≤ B') : IdxAt w B' g c := by
  obtain ⟨hg, b1, b2, b3, b4, l1, l2, l3, l4, r⟩ := h
  exact ⟨by omega, b1, b2, b3, b4, by omega, by omega, by omega, by omega, r⟩
theorem IdxAt.up {w w' : World} {g : Nat} {c : Cfg} (h : IdxAt w w.heap.size g c) (hb : Below w.heap.size w w') : IdxAt w' w'.heap.size g c := (h.below hb).more hb.size
/-- the same, with a lower bound on the blocks -/
structure IdxIn (w : World) (L B g : Nat) (c : Cfg) : Prop where
  lt : g < B
  ge : L ≤ g
  maps : ∃ b1 b2 b3 b4, L ≤ b1 ∧ L ≤ b2 ∧ L ≤ b3 ∧ L ≤ b4 ∧ b1 < B ∧ b2 < B ∧ b3 < B ∧ b4 < B ∧ w.cell? ⟨g, 0, none⟩ = some (.map (some b1)) ∧ w.cell? ⟨g, 1, none⟩ = some (.map (some b2)) ∧ w.cell? ⟨g, 2, none⟩ = some (.map (some b3)) ∧ w.cell? ⟨g, 3, none⟩ = some (.map (some b4)) ∧
    MapIs w Try.prog 41 kU vI b1 (places [] 0 (c.parts.map (·.id))) ∧ MapIs w Try.prog 41 kU vI b2 (places [] 0 (c.ports.map (·.id))) ∧
    MapIs w Try.prog 41 kU vI b3 (places [] 0 (c.chans.map (·.id))) ∧ MapIs w Try.prog 99 kN vI b4 (places [] 0 (c.ports.map Prt.key))
theorem IdxIn.at_ {w : World} {L B g : Nat} {c : Cfg} (h : IdxIn w L B g c) : IdxAt w B g c := by
  obtain ⟨hg, _, b1, b2, b3, b4, _, _, _, _, l1, l2, l3, l4, r⟩ := h
  exact ⟨hg, b1, b2, b3, b4, l1, l2, l3, l4, r⟩
theorem IdxIn.below {w w' : World} {L B g : Nat} {c : Cfg} (h : IdxIn w L B g c) (hb : Below B w w') : IdxIn w' L B g c := by
  obtain ⟨hg, hL, b1, b2, b3, b4, q1, q2, q3, q4, l1, l2, l3, l4, c1, c2, c3, c4, m1, m2, m3, m4⟩ := h
  exact ⟨hg, hL, b1, b2, b3, b4, q1, q2, q3, q4, l1, l2, l3, l4, (hb.cell (p := ⟨g, 0, none⟩) hg).trans c1, (hb.cell (p := ⟨g, 1, none⟩) hg).trans c2, (hb.cell (p := ⟨g, 2, none⟩) hg).trans c3, (hb.cell (p := ⟨g, 3, none⟩) hg).trans c4,
    m1.below hb l1, m2.below hb l2, m3.below hb l3, m4.below hb l4⟩
theorem IdxIn.grown {w w' : World} {L B g b : Nat} {c : Cfg} (h : IdxIn w L B g c) (hg : w.grownBy w' (some b)) (hB : B ≤ w.heap.size) (hne : b < L ∨ B ≤ b) : IdxIn w' L B g c := by
  obtain ⟨hl, hL, b1, b2, b3, b4, q1, q2, q3, q4, l1, l2, l3, l4, c1, c2, c3, c4, m1, m2, m3, m4⟩ := h
  have hk : ∀ i, L ≤ i → i < B → w'.heap[i]? = w.heap[i]? := fun i h1 h2 => hg.block i (by omega) (fun e => by injection e; omega)
  have hc : ∀ o, w'.cell? ⟨g, o, none⟩ = w.cell? ⟨g, o, none⟩ := fun o => World.cell?_of_block (hk g hL hl)
  exact ⟨hl, hL, b1, b2, b3, b4, q1, q2, q3, q4, l1, l2, l3, l4, (hc _).trans c1, (hc _).trans c2, (hc _).trans c3, (hc _).trans c4, m1.block (hk _ q1 l1), m2.block (hk _ q2 l2), m3.block (hk _ q3 l3), m4.block (hk _ q4 l4)⟩
/-- where New stands between two of its statements: the box of its argument, the index, and what each map holds -/
structure NewSt (w wr : World) (c : Cfg) (A1 A4 A5 : Option Addr) (c1 c4 c5 : Nat) (e1 e2 e3 : List (Int × Int)) (e4 : List ((Int × ByteArray) × Int)) : Prop where
  hz : w.heap.size + 1 + 1 + 1 + 1 + 1 < wr.heap.size
  bel : Below w.heap.size w wr
  x1 : wr.cell? ⟨w.heap.size, 1, none⟩ = some (.slice A1 c.parts.length c1)
  x4 : wr.cell? ⟨w.heap.size, 4, none⟩ = some (.slice A4 c.ports.length c4)
  x5 : wr.cell? ⟨w.heap.size, 5, none⟩ = some (.slice A5 c.chans.length c5)
  i0 : wr.cell? ⟨w.heap.size + 1 + 1 + 1 + 1 + 1, 0, none⟩ = some (.map (some (w.heap.size + 1)))
  i1 : wr.cell? ⟨w.heap.size + 1 + 1 + 1 + 1 + 1, 1, none⟩ = some (.map (some (w.heap.size + 1 + 1)))
  i2 : wr.cell? ⟨w.heap.size + 1 + 1 + 1 + 1 + 1, 2, none⟩ = some (.map (some (w.heap.size + 1 + 1 + 1)))
  i3 : wr.cell? ⟨w.heap.size + 1 + 1 + 1 + 1 + 1, 3, none⟩ = some (.map (some (w.heap.size + 1 + 1 + 1 + 1)))
  m1 : MapIs wr Try.prog 41 kU vI (w.heap.size + 1) e1
  m2 : MapIs wr Try.prog 41 kU vI (w.heap.size + 1 + 1) e2
  m3 : MapIs wr Try.prog 41 kU vI (w.heap.size + 1 + 1 + 1) e3
  m4 : MapIs wr Try.prog 99 kN vI (w.heap.size + 1 + 1 + 1 + 1) e4
theorem MapIs.grown {α β : Type} {w w' : World} {P : Program} {K : TypeId} {key : α → Value} {val : β → Value} {b g : Nat} {es : List (α × β)} (h : MapIs w P K key val b es) (hg : w.grownBy w' (some g)) (hne : b ≠ g) : MapIs w' P K key val b es :=
  h.block (hg.block b h.lt (fun e => hne (by injection e)))
section
variable {w wr w' : World} {c : Cfg} {A1 A4 A5 : Option Addr} {c1 c4 c5 : Nat} {e1 e2 e3 : List (Int × Int)} {e4 : List ((Int × ByteArray) × Int)}
theorem NewSt.drew (h : NewSt w wr c A1 A4 A5 c1 c4 c5 e1 e2 e3 e4) : NewSt w wr.drew c A1 A4 A5 c1 c4 c5 e1 e2 e3 e4 := by
  obtain ⟨hz, bel, x1, x4, x5, i0, i1, i2, i3, m1, m2, m3, m4⟩ := h
  exact ⟨hz, bel.drew, x1, x4, x5, i0, i1, i2, i3, m1, m2, m3, m4⟩
theorem below_grown {B : Nat} {a w w' : World} {g : Nat} (h : Below B a w) (hg : w.grownBy w' (some g)) (hB : B ≤ w.heap.size) (hgB : B ≤ g) : Below B a w' := h.grown hg hB fun k hk => by injection hk with hk; omega
theorem NewSt.step1 {e' : List (Int × Int)} (h : NewSt w wr c A1 A4 A5 c1 c4 c5 e1 e2 e3 e4) (hm : MapIs w' Try.prog 41 kU vI (w.heap.size + 1) e') (hg : wr.grownBy w' (some (w.heap.size + 1))) : NewSt w w' c A1 A4 A5 c1 c4 c5 e' e2 e3 e4 := by
  have hz := h.hz
  have hs := hg.size
  exact ⟨by omega, below_grown h.bel hg h.bel.size (by omega), (grown_cell hg (by omega) (by omega)).trans h.x1, (grown_cell hg (by omega) (by omega)).trans h.x4, (grown_cell hg (by omega) (by omega)).trans h.x5,
    (grown_cell hg (by omega) (by omega)).trans h.i0, (grown_cell hg (by omega) (by omega)).trans h.i1, (grown_cell hg (by omega) (by omega)).trans h.i2, (grown_cell hg (by omega) (by omega)).trans h.i3, hm, (h.m2.grown hg (by omega)), (h.m3.grown hg (by omega)), (h.m4.grown hg (by omega))⟩
theorem NewSt.step2 {e' : List (Int × Int)} (h : NewSt w wr c A1 A4 A5 c1 c4 c5 e1 e2 e3 e4) (hm : MapIs w' Try.prog 41 kU vI (w.heap.size + 1 + 1) e') (hg : wr.grownBy w' (some (w.heap.size + 1 + 1))) : NewSt w w' c A1 A4 A5 c1 c4 c5 e1 e' e3 e4 := by
  have hz := h.hz
  have hs := hg.size
  exact ⟨by omega, below_grown h.bel hg h.bel.size (by omega), (grown_cell hg (by omega) (by omega)).trans h.x1, (grown_cell hg (by omega) (by omega)).trans h.x4, (grown_cell hg (by omega) (by omega)).trans h.x5,
    (grown_cell hg (by omega) (by omega)).trans h.i0, (grown_cell hg (by omega) (by omega)).trans h.i1, (grown_cell hg (by omega) (by omega)).trans h.i2, (grown_cell hg (by omega) (by omega)).trans h.i3, (h.m1.grown hg (by omega)), hm, (h.m3.grown hg (by omega)), (h.m4.grown hg (by omega))⟩
theorem NewSt.step3 {e' : List (Int × Int)} (h : NewSt w wr c A1 A4 A5 c1 c4 c5 e1 e2 e3 e4) (hm : MapIs w' Try.prog 41 kU vI (w.heap.size + 1 + 1 + 1) e') (hg : wr.grownBy w' (some (w.heap.size + 1 + 1 + 1))) : NewSt w w' c A1 A4 A5 c1 c4 c5 e1 e2 e' e4 := by
  have hz := h.hz
  have hs := hg.size
  exact ⟨by omega, below_grown h.bel hg h.bel.size (by omega), (grown_cell hg (by omega) (by omega)).trans h.x1, (grown_cell hg (by omega) (by omega)).trans h.x4, (grown_cell hg (by omega) (by omega)).trans h.x5,
    (grown_cell hg (by omega) (by omega)).trans h.i0, (grown_cell hg (by omega) (by omega)).trans h.i1, (grown_cell hg (by omega) (by omega)).trans h.i2, (grown_cell hg (by omega) (by omega)).trans h.i3, (h.m1.grown hg (by omega)), (h.m2.grown hg (by omega)), hm, (h.m4.grown hg (by omega))⟩
theorem NewSt.step4 {e' : List ((Int × ByteArray) × Int)} (h : NewSt w wr c A1 A4 A5 c1 c4 c5 e1 e2 e3 e4) (hm : MapIs w' Try.prog 99 kN vI (w.heap.size + 1 + 1 + 1 + 1) e') (hg : wr.grownBy w' (some (w.heap.size + 1 + 1 + 1 + 1))) : NewSt w w' c A1 A4 A5 c1 c4 c5 e1 e2 e3 e' := by
  have hz := h.hz
  have hs := hg.size
  exact ⟨by omega, below_grown h.bel hg h.bel.size (by omega), (grown_cell hg (by omega) (by omega)).trans h.x1, (grown_cell hg (by omega) (by omega)).trans h.x4, (grown_cell hg (by omega) (by omega)).trans h.x5,
    (grown_cell hg (by omega) (by omega)).trans h.i0, (grown_cell hg (by omega) (by omega)).trans h.i1, (grown_cell hg (by omega) (by omega)).trans h.i2, (grown_cell hg (by omega) (by omega)).trans h.i3, (h.m1.grown hg (by omega)), (h.m2.grown hg (by omega)), (h.m3.grown hg (by omega)), hm⟩
end
theorem new_start (w : World) (c : Cfg) (A1 A2 A3 A4 A5 : Option Addr) (c1 c2 c3 c4 c5 : Nat) (t1 t2 : TypeId) :
    NewSt w ((((((w.alloc (.cells #[.int .u64 c.frame, .slice A1 c.parts.length c1, .slice A2 c.wins.length c2, .slice A3 c.regs.length c3, .slice A4 c.ports.length c4, .slice A5 c.chans.length c5] t1)).alloc (.map #[] 0)).alloc (.map #[] 0)).alloc (.map #[] 0)).alloc (.map #[] 0)).alloc
      (.cells #[.map (some (w.heap.size + 1)), .map (some (w.heap.size + 1 + 1)), .map (some (w.heap.size + 1 + 1 + 1)), .map (some (w.heap.size + 1 + 1 + 1 + 1))] t2)) c A1 A4 A5 c1 c4 c5 [] [] [] [] := by
  have m1 := MapIs.made (w.alloc (.cells #[.int .u64 c.frame, .slice A1 c.parts.length c1, .slice A2 c.wins.length c2, .slice A3 c.regs.length c3, .slice A4 c.ports.length c4, .slice A5 c.chans.length c5] t1)) Try.prog 41 kU vI
  have m2 := MapIs.made ((w.alloc (.cells #[.int .u64 c.frame, .slice A1 c.parts.length c1, .slice A2 c.wins.length c2, .slice A3 c.regs.length c3, .slice A4 c.ports.length c4, .slice A5 c.chans.length c5] t1)).alloc (.map #[] 0)) Try.prog 41 kU vI
  have m3 := MapIs.made (((w.alloc (.cells #[.int .u64 c.frame, .slice A1 c.parts.length c1, .slice A2 c.wins.length c2, .slice A3 c.regs.length c3, .slice A4 c.ports.length c4, .slice A5 c.chans.length c5] t1)).alloc (.map #[] 0)).alloc (.map #[] 0)) Try.prog 41 kU vI
  have m4 := MapIs.made ((((w.alloc (.cells #[.int .u64 c.frame, .slice A1 c.parts.length c1, .slice A2 c.wins.length c2, .slice A3 c.regs.length c3, .slice A4 c.ports.length c4, .slice A5 c.chans.length c5] t1)).alloc (.map #[] 0)).alloc (.map #[] 0)).alloc (.map #[] 0)) Try.prog 99 kN vI
  simp only [World.size_alloc] at m1 m2 m3 m4
  refine ⟨by simp, ?_, ?_, ?_, ?_, ?_, ?_, ?_, ?_, (((m1.alloc _).alloc _).alloc _).alloc _, ((m2.alloc _).alloc _).alloc _, (m3.alloc _).alloc _, m4.alloc _⟩
  · exact ((((((Below.refl _ _).alloc (Nat.le_refl _) _).alloc (by simp) _).alloc (by simp; omega) _).alloc (by simp; omega) _).alloc (by simp; omega) _).alloc (by simp; omega) _
  all_goals (simp [go_sem])
set_option maxRecDepth 100000 in
set_option maxHeartbeats 1000000 in
theorem new_in (c : Cfg) (A1 A2 A3 A4 A5 : Option Addr) (c1 c2 c3 c4 c5 : Nat) (w : World) (hR : CfgR w w.heap.size c A1 A2 A3 A4 A5 c1 c2 c3 c4 c5) (hs : c.small) (hok : c.ok) :
    Calls Try.prog 25 #[cfgV c.frame A1 A2 A3 A4 A5 c.parts.length c.wins.length c.regs.length c.ports.length c.chans.length c1 c2 c3 c4 c5] w fun e w' =>
      ∃ g, e = .returned (.pointer (some ⟨g, 0, none⟩)) ∧ IdxIn w' w.heap.size w'.heap.size g c ∧ Below w.heap.size w w' := by
  have ht : c.total ≤ 1048576 := hs.total
  have b1 : c.parts.length ≤ 1048576 := by unfold Cfg.total at ht; omega
  have b4 : c.ports.length ≤ 1048576 := by unfold Cfg.total at ht; omega
  have b5 : c.chans.length ≤ 1048576 := by unfold Cfg.total at ht; omega
  have hmm := @run_makeMap Try.prog
  have HR := Lib.hid hR
  have HOK := Lib.hid hok
  clear hR hs ht hok
  go_enter Try.func25, Try.ntmps25
  go_wp2
  have HST := Lib.hid (new_start w c A1 A2 A3 A4 A5 c1 c2 c3 c4 c5 29 89)
  generalize hW : World.alloc (World.alloc _ (Obj.map #[] 0)) (Obj.cells #[Value.map _, _, _, _] _) = W
  have st := HST.out
  rw [hW] at st
  clear hW HST hmm
  have xx := st.x1
  have ii := st.i0
  have ST := Lib.hid st
  clear st
  go_region_held3 (fun w' => w'.cell? ⟨w.heap.size, 1, none⟩ = some (.slice A1 c.parts.length c1) ∧ w'.cell? ⟨w.heap.size + 1 + 1 + 1 + 1 + 1, 0, none⟩ = some (.map (some (w.heap.size + 1)))) (first | go_keep | exact ⟨(ST.out.drew.step1 hm hg).x1, (ST.out.drew.step1 hm hg).i0⟩) (first | (go_at_call 35; refine (collectParU_ok c.parts A1 c1 b1 HOK.out.parts _ _ (HR.out.parts.up ST.out.bel.drew) ST.out.drew.m1).mono ?_; rintro e W1 ⟨rfl, hm, hg⟩))
  have st := ST.out.drew.step1 hm hg
  clear hm hg xx ii ST
  go_wp2
  have xx := st.x4
  have ii := st.i1
  have ST := Lib.hid st
  clear st
  go_region_held3 (fun w' => w'.cell? ⟨w.heap.size, 4, none⟩ = some (.slice A4 c.ports.length c4) ∧ w'.cell? ⟨w.heap.size + 1 + 1 + 1 + 1 + 1, 1, none⟩ = some (.map (some (w.heap.size + 1 + 1)))) (first | go_keep | exact ⟨(ST.out.drew.step2 hm hg).x4, (ST.out.drew.step2 hm hg).i1⟩) (first | (go_at_call 38; refine (collectPrtU_ok c.ports A4 c4 b4 HOK.out.ports _ _ (HR.out.ports.up ST.out.bel.drew) ST.out.drew.m2).mono ?_; rintro e W2 ⟨rfl, hm, hg⟩))
  have st := ST.out.drew.step2 hm hg
  clear hm hg xx ii ST
  go_wp2
  obtain ⟨cs, hC, hr⟩ := HR.out.chans
  have xx := st.x5
  have ii := st.i2
  have ST := Lib.hid st
  clear st
  go_region_held3 (fun w' => w'.cell? ⟨w.heap.size, 5, none⟩ = some (.slice A5 c.chans.length c5) ∧ w'.cell? ⟨w.heap.size + 1 + 1 + 1 + 1 + 1, 2, none⟩ = some (.map (some (w.heap.size + 1 + 1 + 1)))) (first | go_keep | exact ⟨(ST.out.drew.step3 hm hg).x5, (ST.out.drew.step3 hm hg).i2⟩) (first | (go_at_call 40; refine (collectChnU_ok c.chans A5 c5 b5 HOK.out.chans _ _ cs ((hC.keep fun _ _ hp => ST.out.bel.drew.cell hp).more ST.out.bel.drew.size) (hr.up ST.out.bel.drew) ST.out.drew.m3).mono ?_; rintro e W3 ⟨rfl, hm, hg⟩))
  have st := ST.out.drew.step3 hm hg
  clear hm hg xx ii ST
  go_wp2
  have xx := st.x4
  have ii := st.i3
  have ST := Lib.hid st
  clear st
  go_region_held3 (fun w' => w'.cell? ⟨w.heap.size, 4, none⟩ = some (.slice A4 c.ports.length c4) ∧ w'.cell? ⟨w.heap.size + 1 + 1 + 1 + 1 + 1, 3, none⟩ = some (.map (some (w.heap.size + 1 + 1 + 1 + 1)))) (first | go_keep | exact ⟨(ST.out.drew.step4 hm hg).x4, (ST.out.drew.step4 hm hg).i3⟩) (first | (go_at_call 42; refine (collectPrtN_ok c.ports A4 c4 b4 HOK.out.ports _ _ (HR.out.ports.up ST.out.bel.drew) ST.out.drew.m4).mono ?_; rintro e W4 ⟨rfl, hm, hg⟩))
  have st := ST.out.drew.step4 hm hg
  clear hm hg xx ii ST
  go_wp2
  go_ret
  refine ⟨_, rfl, ⟨st.hz, by omega, _, _, _, _, by omega, by omega, by omega, by omega, by have := st.hz; omega, by have := st.hz; omega, by have := st.hz; omega, by have := st.hz; omega, st.i0, st.i1, st.i2, st.i3, st.m1, st.m2, st.m3, st.m4⟩, st.bel⟩
theorem new_ok (c : Cfg) (A1 A2 A3 A4 A5 : Option Addr) (c1 c2 c3 c4 c5 : Nat) (w : World) (hR : CfgR w w.heap.size c A1 A2 A3 A4 A5 c1 c2 c3 c4 c5) (hs : c.small) (hok : c.ok) :
    Calls Try.prog 25 #[cfgV c.frame A1 A2 A3 A4 A5 c.parts.length c.wins.length c.regs.length c.ports.length c.chans.length c1 c2 c3 c4 c5] w fun e w' =>
      ∃ g, e = .returned (.pointer (some ⟨g, 0, none⟩)) ∧ w.heap.size ≤ g ∧ IdxAt w' w'.heap.size g c ∧ Below w.heap.size w w' :=
  (new_in c A1 A2 A3 A4 A5 c1 c2 c3 c4 c5 w hR hs hok).mono fun _ _ ⟨g, he, hi, hb⟩ => ⟨g, he, hi.ge, hi.at_, hb⟩
end Go.Proofs.Ytaakcpdpkcadjaa
