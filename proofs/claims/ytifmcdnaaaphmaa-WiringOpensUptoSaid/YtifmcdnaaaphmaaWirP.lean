/-
  What the checker of package wiring computes, walked once: of, port, end.
-/
import Derived.Test.YtifmcdnaaaphmaaRef18c
import Derived.Test.YtifmcdnaaaphmaaIndex
namespace Go.Proofs.Ytifmcdnaaaphmaa
open Go.RowKit
open Go.Maps (Keyed)
attribute [local go_sem] ext_cell
@[reducible] def vB (b : Bool) : Value := .bool b
theorem zeroBool (w : World) : (zeroValue 4).run Try.prog w = .ok (.bool false) w := by kernel_rfl
def usedL (u : List Int) : List (Int × Bool) := u.map fun x => (x, true)
theorem usedL_keys (u : List Int) : (usedL u).map (·.1) = u := by simp [usedL, Function.comp_def]
theorem usedL_get {u : List Int} {x : Int} : getv (usedL u) x = if x ∈ u then some true else none := by
  induction u with
  | nil => simp [usedL, getv]
  | cons y r ih =>
    simp only [usedL, List.map_cons, getv] at ih ⊢
    by_cases h : y = x
    · simp [h]
    · rw [if_neg h, ih]; simp [Ne.symm h]
/-- a checker lies at block g, its set of used ports at block b -/
structure ChkAt (w : World) (B g b : Nat) (c : Cfg) (A4 : Option Addr) (c4 : Nat) : Prop where
  lt : g < B
  bl : b < B
  p4 : w.cell? ⟨g, 4, none⟩ = some (.slice A4 c.ports.length c4)
  ix : ∃ L M gi, w.cell? ⟨g, 6, none⟩ = some (.pointer (some ⟨gi, 0, none⟩)) ∧ IdxIn w L M gi c ∧ M ≤ B ∧ (b < L ∨ M ≤ b)
  mp : w.cell? ⟨g, 7, none⟩ = some (.map (some b))
  rd : Rd w B 6 A4 c.ports.length (c.ports.flatMap Prt.cells)
section
variable {w w' : World} {B B' g b : Nat} {c : Cfg} {A4 : Option Addr} {c4 : Nat}
theorem ChkAt.below (h : ChkAt w B g b c A4 c4) (hb : Below B w w') : ChkAt w' B g b c A4 c4 := by
  obtain ⟨l1, l2, h4, ⟨L, M, gi, h6, hi, hM, ho⟩, h7, hr⟩ := h
  exact ⟨l1, l2, (hb.cell (p := ⟨g, 4, none⟩) l1).trans h4, ⟨L, M, gi, (hb.cell (p := ⟨g, 6, none⟩) l1).trans h6, hi.below (hb.mono hM), hM, ho⟩, (hb.cell (p := ⟨g, 7, none⟩) l1).trans h7, hr.below hb⟩
theorem ChkAt.more (h : ChkAt w B g b c A4 c4) (hB : B ≤ B') : ChkAt w B' g b c A4 c4 := by
  obtain ⟨l1, l2, h4, ⟨L, M, gi, h6, hi, hM, ho⟩, h7, hr⟩ := h
  exact ⟨by omega, by omega, h4, ⟨L, M, gi, h6, hi, by omega, ho⟩, h7, hr.more hB⟩
theorem ChkAt.up (h : ChkAt w w.heap.size g b c A4 c4) (hb : Below w.heap.size w w') : ChkAt w' w'.heap.size g b c A4 c4 := (h.below hb).more hb.size
theorem ChkAt.idx (h : ChkAt w B g b c A4 c4) (hB : B ≤ w.heap.size) : ∃ gi, w.cell? ⟨g, 6, none⟩ = some (.pointer (some ⟨gi, 0, none⟩)) ∧ IdxAt w w.heap.size gi c := by
  obtain ⟨_, _, _, ⟨L, M, gi, h6, hi, hM, ho⟩, _, _⟩ := h
  exact ⟨gi, h6, hi.at_.more (by omega)⟩
/-- the set alone has turned -/
theorem ChkAt.grown (h : ChkAt w w.heap.size g b c A4 c4) (hg : w.grownBy w' (some b)) (hne : ∀ x o v, w.cell? ⟨x, o, none⟩ = some v → x ≠ b) : ChkAt w' w'.heap.size g b c A4 c4 := by
  obtain ⟨l1, l2, h4, ⟨L, M, gi, h6, hi, hM, ho⟩, h7, hr⟩ := h
  have hs := hg.size
  exact ⟨by omega, by omega, (grown_cell hg l1 (hne _ _ _ h4)).trans h4, ⟨L, M, gi, (grown_cell hg l1 (hne _ _ _ h6)).trans h6, hi.grown hg hM ho, by omega, ho⟩, (grown_cell hg l1 (hne _ _ _ h7)).trans h7, (hr.grown hg (Nat.le_refl _) hne).more hs⟩
end
theorem grown_of_below {w w' : World} (h : Below w.heap.size w w') (row : Option Nat) : w.grownBy w' row := ⟨h.os, h.tape, h.output, h.size, fun i hi _ => h.block i hi⟩
theorem iPort_val (c : Cfg) (g : Nat) (id : Int) (w : World) (h : IdxAt w w.heap.size g c) (hid : wU16 id) (v : Int) (hv : Hid (idx (fun x => x.id == id) c.ports = v)) :
    Calls Try.prog 48 #[.pointer (some ⟨g, 0, none⟩), .int .u16 id] w fun e w' => e = .returned (.int .i64 v) ∧ Below w.heap.size w w' := by
  have h := iPort_ok c g id w h hid
  rwa [hv.out] at h
theorem iPartition_val (c : Cfg) (g : Nat) (id : Int) (w : World) (h : IdxAt w w.heap.size g c) (hid : wU16 id) (v : Int) (hv : Hid (idx (fun x => x.id == id) c.parts = v)) :
    Calls Try.prog 45 #[.pointer (some ⟨g, 0, none⟩), .int .u16 id] w fun e w' => e = .returned (.int .i64 v) ∧ Below w.heap.size w w' := by
  have h := iPartition_ok c g id w h hid
  rwa [hv.out] at h
set_option maxRecDepth 100000 in
set_option maxHeartbeats 4000000 in
theorem of_ok (c : Cfg) (A1 A2 A3 A4 A5 : Option Addr) (c1 c2 c3 c4 c5 : Nat) (w : World) (hR : CfgR w w.heap.size c A1 A2 A3 A4 A5 c1 c2 c3 c4 c5) (hs : c.small) (hok : c.ok) :
    Calls Try.prog 34 #[cfgV c.frame A1 A2 A3 A4 A5 c.parts.length c.wins.length c.regs.length c.ports.length c.chans.length c1 c2 c3 c4 c5] w fun e w' => ∃ g b, e = .returned (.pointer (some ⟨g, 0, none⟩)) ∧ ChkAt w' w'.heap.size g b c A4 c4 ∧ MapIs w' Try.prog 38 kU vB b (usedL []) ∧ Below w.heap.size w w' ∧ w.heap.size ≤ b := by
  have hmm := @run_makeMap Try.prog
  obtain ⟨W0, hW, st⟩ := St.start_any hR 29
  have HW := Lib.hid hW
  obtain ⟨x0, x1, x2, x3, x4, x5, hz⟩ := st.cells
  have ST0 := Lib.hid st
  clear hR hW st
  go_enter Try.func34, Try.ntmps34
  go_upto_region 1 with (fail)
  rw [HW.out]
  have KEEP : ∀ V, Below W0.heap.size W0 V → (fun w' => w'.cell? ⟨w.heap.size, 0, none⟩ = some (.int .u64 c.frame) ∧ w'.cell? ⟨w.heap.size, 1, none⟩ = some (.slice A1 c.parts.length c1) ∧ w'.cell? ⟨w.heap.size, 2, none⟩ = some (.slice A2 c.wins.length c2) ∧
      w'.cell? ⟨w.heap.size, 3, none⟩ = some (.slice A3 c.regs.length c3) ∧ w'.cell? ⟨w.heap.size, 4, none⟩ = some (.slice A4 c.ports.length c4) ∧ w'.cell? ⟨w.heap.size, 5, none⟩ = some (.slice A5 c.chans.length c5)) V := fun V hV => by
    have q : ∀ b o, b < W0.heap.size → V.cell? ⟨b, o, none⟩ = W0.cell? ⟨b, o, none⟩ := fun b o h => hV.cell (p := ⟨b, o, none⟩) h
    exact ⟨(q _ _ hz).trans x0, (q _ _ hz).trans x1, (q _ _ hz).trans x2, (q _ _ hz).trans x3, (q _ _ hz).trans x4, (q _ _ hz).trans x5⟩
  have HKP := Lib.hid KEEP
  clear KEEP
  go_region_held3 (fun w' => w'.cell? ⟨w.heap.size, 0, none⟩ = some (.int .u64 c.frame) ∧ w'.cell? ⟨w.heap.size, 1, none⟩ = some (.slice A1 c.parts.length c1) ∧ w'.cell? ⟨w.heap.size, 2, none⟩ = some (.slice A2 c.wins.length c2) ∧
      w'.cell? ⟨w.heap.size, 3, none⟩ = some (.slice A3 c.regs.length c3) ∧ w'.cell? ⟨w.heap.size, 4, none⟩ = some (.slice A4 c.ports.length c4) ∧ w'.cell? ⟨w.heap.size, 5, none⟩ = some (.slice A5 c.chans.length c5))
    (first | (refine HKP.out _ ?_; (repeat (first | with_reducible exact HBW.out | with_reducible exact Below.refl _ _ | with_reducible refine Below.drew ?_ | (with_reducible refine Below.alloc ?_ (by first | (simp; done) | (have hq := HBW.out.size; simp at hq ⊢; omega)) _) | (with_reducible refine Below.setCell ?_ (by first | (simp; done) | (have hq := HBW.out.size; simp at hq ⊢; omega)) _))); done) | go_keep)
    (first | (go_at_call 44; refine (new_in c _ _ _ _ _ _ _ _ _ _ _ (ST0.out.up (by repeat (first | with_reducible exact Below.refl _ _ | with_reducible refine Below.drew ?_ | (with_reducible refine Below.alloc ?_ (by simp) _) | (with_reducible refine Below.setCell ?_ (by simp) _)))).R hs hok).mono ?_; rintro e w2 ⟨gi, rfl, hI, hb2⟩; have HBW := Lib.hid (Below.then_ (show Below W0.heap.size W0 _ from (by repeat (first | with_reducible exact Below.refl _ _ | with_reducible refine Below.drew ?_ | (with_reducible refine Below.alloc ?_ (by simp) _) | (with_reducible refine Below.setCell ?_ (by simp) _)))) hb2); have HB2 := Lib.hid hb2; have HI := Lib.hid hI))
  · go_wp2
    go_ret
    refine ⟨_, _, rfl, ⟨(by first | (simp; done) | (simp; omega) | omega), (by first | (simp; done) | (simp; omega) | omega), (by first | (simp; done) | (simp; omega) | omega), ⟨_, _, gi, (by first | (simp; done) | (simp; omega) | omega), (HI.out.below (((Below.refl _ _).alloc (Nat.le_refl _) _).alloc (by first | (simp; done) | (simp; omega) | omega) _)), (by first | (simp; done) | (simp; omega) | omega), .inr (by first | (simp; done) | (simp; omega) | omega)⟩, (by first | (simp; done) | (simp; omega) | omega), (((ST0.out.up HBW.out).R.ports.alloc (Nat.le_refl _) _).alloc (by first | (simp; done) | (simp; omega) | omega) _).more (by first | (simp; done) | (simp; omega) | omega)⟩, (MapIs.made _ _ _ _ _).alloc _, ?_, (ST0.out.up HBW.out).bel.size⟩
    exact ((ST0.out.up HBW.out).bel.alloc (ST0.out.up HBW.out).bel.size _).alloc (Nat.le_trans (ST0.out.up HBW.out).bel.size (by first | (simp; done) | (simp; omega) | omega)) _
  · go_wp2
    go_ret
    have hm := MapIs.made W0 Try.prog 38 kU vB
    have hs := HB2.out.size
    simp at hs
    refine ⟨_, _, rfl, ⟨(by first | (simp; done) | (simp; omega) | omega), (by first | (simp; done) | (simp; omega) | omega), (by first | (simp; done) | (simp; omega) | omega), ⟨_, _, gi, (by first | (simp; done) | (simp; omega) | omega), (HI.out.below ((Below.refl _ _).alloc (Nat.le_refl _) _)), (by first | (simp; done) | (simp; omega) | omega), .inl (by first | (simp; done) | (simp; omega) | omega)⟩, (by first | (simp; done) | (simp; omega) | omega), ((ST0.out.up HBW.out).R.ports.alloc (Nat.le_refl _) _).more (by first | (simp; done) | (simp; omega) | omega)⟩, (MapIs.below (show MapIs (W0.alloc (.map #[] 0)).drew Try.prog 38 kU vB W0.heap.size ([] : List (Int × Bool)) from hm) HB2.out (by first | (simp; done) | (simp; omega) | omega)).alloc _, ?_, ST0.out.bel.size⟩
    exact (ST0.out.up HBW.out).bel.alloc (ST0.out.up HBW.out).bel.size _
set_option maxRecDepth 100000 in
set_option maxHeartbeats 2000000 in
theorem chkPort_ok (c : Cfg) (g b : Nat) (A4 : Option Addr) (c4 : Nat) (w : World) (h : ChkAt w w.heap.size g b c A4 c4) (p : Prt) (hp : p.ok) :
    Calls Try.prog 35 #[.pointer (some ⟨g, 0, none⟩), .agg #[.int .u16 p.id, .int .u16 p.part, .string p.name, .bool p.output, .bool p.queuing, .int .u32 p.size]] w fun e w' => e = .returned (.int .i64 (portCode c p)) ∧ Below w.heap.size w w' := by
  obtain ⟨W1, hW, pb, hb1⟩ := PtBox.new w p 43
  have h1 := h.up hb1
  obtain ⟨gi, k6, hI⟩ := h1.idx (Nat.le_refl _)
  have HI := Lib.hid hI
  have HW := Lib.hid hW
  have HB := Lib.hid hb1
  have hg := h1.lt
  obtain ⟨z0, z1, z2, z3, z4, z5, hz⟩ := pb
  have hpp := hp.part
  clear hW hb1 h1 hI h hp
  by_cases hi : idx (fun y => y.id == p.part) c.parts < 0
  · have HC := Lib.hid (portCode_19 hi)
    go_enter Try.func35, Try.ntmps35
    go_upto_region 1 with (fail)
    rw [HW.out]
    refine wp_region_ext (by kernel_rfl) (by kernel_rfl) ?_
    repeat (go_big_quiet_step ((go_at_call 45; exact Calls.quiet_ext (iPartition_ok c gi p.part _ (HI.out.up (ext_below _ _)) hpp))))
    refine wpQuiet_nil ?_
    intro xq
    go_wp2
    go_ret
    exact ⟨ret_int HC.out.symm, Below.then_ HB.out (ext_below _ _)⟩
  · have hid : decide (idx (fun y => y.id == p.part) c.parts < 0) = false := decide_eq_false hi
    rcases beq_cases p.size 0 with h2 | h2
    · have HC := Lib.hid (portCode_28 hi (by simpa using h2))
      go_enter Try.func35, Try.ntmps35
      go_upto_region 1 with (fail)
      rw [HW.out]
      refine wp_region_ext (by kernel_rfl) (by kernel_rfl) ?_
      repeat (go_big_quiet_step ((go_at_call 45; exact Calls.quiet_ext (iPartition_ok c gi p.part _ (HI.out.up (ext_below _ _)) hpp))))
      refine wpQuiet_nil ?_
      intro xq
      go_wp2
      go_ret
      exact ⟨ret_int HC.out.symm, Below.then_ HB.out (ext_below _ _)⟩
    · have HC := Lib.hid (portCode_0 hi (by simpa using h2))
      go_enter Try.func35, Try.ntmps35
      go_upto_region 1 with (fail)
      rw [HW.out]
      refine wp_region_ext (by kernel_rfl) (by kernel_rfl) ?_
      repeat (go_big_quiet_step ((go_at_call 45; exact Calls.quiet_ext (iPartition_ok c gi p.part _ (HI.out.up (ext_below _ _)) hpp))))
      refine wpQuiet_nil ?_
      intro xq
      go_wp2
      go_ret
      exact ⟨ret_int HC.out.symm, Below.then_ HB.out (ext_below _ _)⟩
end Go.Proofs.Ytifmcdnaaaphmaa
