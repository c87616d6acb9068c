/-
  route.New, walked: nil, or a router whose maps hold each channel of the normal form.
-/
import Derived.BigQuiet
import Derived.Deep.RegionHeld3
import Derived.Test.YthnbgbocanpkjaaGreatRoutS
import Derived.Test.YthnbgbocanpkjaaGreatBoxN
namespace Go.Proofs.YthnbgbocanpkjaaGreat
open Go.RowKit Go.Lib
open Go.Maps (Keyed)
theorem chk0_val (c : Cfg) (A1 A2 A3 A4 A5 : Option Addr) (c1 c2 c3 c4 c5 : Nat) (w : World) (hR : CfgR w w.heap.size c A1 A2 A3 A4 A5 c1 c2 c3 c4 c5) (hs : c.small) (hok : c.ok) (f : Flt) (hf : Hid (chkF c 0 = f)) : Calls Tryz.prog 33 #[cfgV c.frame A1 A2 A3 A4 A5 c.parts.length c.wins.length c.regs.length c.ports.length c.chans.length c1 c2 c3 c4 c5] w fun e w' => e = .returned (fltV f) ∧ Below w.heap.size w w' := by
  rw [← hf.out]; exact uPartitions_ok c A1 A2 A3 A4 A5 c1 c2 c3 c4 c5 w hR hs hok
theorem chk1_val (c : Cfg) (A1 A2 A3 A4 A5 : Option Addr) (c1 c2 c3 c4 c5 : Nat) (w : World) (hR : CfgR w w.heap.size c A1 A2 A3 A4 A5 c1 c2 c3 c4 c5) (hs : c.small) (hok : c.ok) (f : Flt) (hf : Hid (chkF c 1 = f)) : Calls Tryz.prog 34 #[cfgV c.frame A1 A2 A3 A4 A5 c.parts.length c.wins.length c.regs.length c.ports.length c.chans.length c1 c2 c3 c4 c5] w fun e w' => e = .returned (fltV f) ∧ Below w.heap.size w w' := by
  rw [← hf.out]; exact uPorts_ok c A1 A2 A3 A4 A5 c1 c2 c3 c4 c5 w hR hs hok
theorem chk2_val (c : Cfg) (A1 A2 A3 A4 A5 : Option Addr) (c1 c2 c3 c4 c5 : Nat) (w : World) (hR : CfgR w w.heap.size c A1 A2 A3 A4 A5 c1 c2 c3 c4 c5) (hs : c.small) (hok : c.ok) (f : Flt) (hf : Hid (chkF c 2 = f)) : Calls Tryz.prog 35 #[cfgV c.frame A1 A2 A3 A4 A5 c.parts.length c.wins.length c.regs.length c.ports.length c.chans.length c1 c2 c3 c4 c5] w fun e w' => e = .returned (fltV f) ∧ Below w.heap.size w w' := by
  rw [← hf.out]; exact uChannels_ok c A1 A2 A3 A4 A5 c1 c2 c3 c4 c5 w hR hs hok
theorem chk3_val (c : Cfg) (A1 A2 A3 A4 A5 : Option Addr) (c1 c2 c3 c4 c5 : Nat) (w : World) (hR : CfgR w w.heap.size c A1 A2 A3 A4 A5 c1 c2 c3 c4 c5) (hs : c.small) (hok : c.ok) (f : Flt) (hf : Hid (chkF c 3 = f)) : Calls Tryz.prog 36 #[cfgV c.frame A1 A2 A3 A4 A5 c.parts.length c.wins.length c.regs.length c.ports.length c.chans.length c1 c2 c3 c4 c5] w fun e w' => e = .returned (fltV f) ∧ Below w.heap.size w w' := by
  rw [← hf.out]; exact wPorts_ok c A1 A2 A3 A4 A5 c1 c2 c3 c4 c5 w hR hs hok
theorem chk4_val (c : Cfg) (A1 A2 A3 A4 A5 : Option Addr) (c1 c2 c3 c4 c5 : Nat) (w : World) (hR : CfgR w w.heap.size c A1 A2 A3 A4 A5 c1 c2 c3 c4 c5) (hs : c.small) (hok : c.ok) (f : Flt) (hf : Hid (chkF c 4 = f)) : Calls Tryz.prog 37 #[cfgV c.frame A1 A2 A3 A4 A5 c.parts.length c.wins.length c.regs.length c.ports.length c.chans.length c1 c2 c3 c4 c5] w fun e w' => e = .returned (fltV f) ∧ Below w.heap.size w w' := by
  rw [← hf.out]; exact wChannels_ok c A1 A2 A3 A4 A5 c1 c2 c3 c4 c5 w hR hs hok
/-- the five checks one after the other -/
def fnK : Nat → FuncId
  | 0 => 33
  | 1 => 34
  | 2 => 35
  | 3 => 36
  | _ => 37
theorem fnK_enters (k : Nat) : ∀ a w, (callFunc (fnK k) a).run Tryz.prog w = .ok (.enter (fnK k) a) w := by
  unfold fnK
  split
  · exact enters_of Tryz.func33 (by kernel_rfl) rfl
  · exact enters_of Tryz.func34 (by kernel_rfl) rfl
  · exact enters_of Tryz.func35 (by kernel_rfl) rfl
  · exact enters_of Tryz.func36 (by kernel_rfl) rfl
  · exact enters_of Tryz.func37 (by kernel_rfl) rfl
theorem chkK_val (c : Cfg) (A1 A2 A3 A4 A5 : Option Addr) (c1 c2 c3 c4 c5 : Nat) (w : World) (hR : CfgR w w.heap.size c A1 A2 A3 A4 A5 c1 c2 c3 c4 c5) (hs : c.small) (hok : c.ok) (k : Nat) (hk : k < 5) (f : Flt) (hf : Hid (chkF c k = f)) : Calls Tryz.prog (fnK k) #[cfgV c.frame A1 A2 A3 A4 A5 c.parts.length c.wins.length c.regs.length c.ports.length c.chans.length c1 c2 c3 c4 c5] w fun e w' => e = .returned (fltV f) ∧ Below w.heap.size w w' := by
  match k, hk with
  | 0, _ => exact chk0_val c A1 A2 A3 A4 A5 c1 c2 c3 c4 c5 w hR hs hok f hf
  | 1, _ => exact chk1_val c A1 A2 A3 A4 A5 c1 c2 c3 c4 c5 w hR hs hok f hf
  | 2, _ => exact chk2_val c A1 A2 A3 A4 A5 c1 c2 c3 c4 c5 w hR hs hok f hf
  | 3, _ => exact chk3_val c A1 A2 A3 A4 A5 c1 c2 c3 c4 c5 w hR hs hok f hf
  | 4, _ => exact chk4_val c A1 A2 A3 A4 A5 c1 c2 c3 c4 c5 w hR hs hok f hf
/-- New: the box of the argument and the row of the checks -/
def fnVs : Array Value := #[.func (.func 33) #[] #[], .func (.func 34) #[] #[], .func (.func 35) #[] #[], .func (.func 36) #[] #[], .func (.func 37) #[] #[]]
theorem fnVs_at {k : Nat} (h : k < 5) : fnVs[k]? = some (.func (.func (fnK k)) #[] #[]) := by
  unfold fnVs fnK
  match k, h with
  | 0, _ => rfl
  | 1, _ => rfl
  | 2, _ => rfl
  | 3, _ => rfl
  | 4, _ => rfl
theorem rt_made {w W V q1 : World} {gx gr gi m1 m2 L0 B0 : Nat} {n : Cfg} {N1 N2 N3 N4 N5 : Option Addr} {n1 n2 n3 n4 n5 : Nat} {L : List CE} (hbel : Below w.heap.size w W) (hz : w.heap.size ≤ W.heap.size) (cb : CBx W gx n N1 N2 N3 N4 N5 n1 n2 n3 n4 n5) (ch : ChL W W.heap.size N5 L) (hW : Below W.heap.size W V)
    (hblk : Blk V gr 76 #[.int .u64 n.frame, .slice N1 n.parts.length n1, .slice N2 n.wins.length n2, .slice N3 n.regs.length n3, .slice N4 n.ports.length n4, .slice N5 n.chans.length n5, .pointer (some ⟨gi, 0, none⟩), .map (some m1), .map (some m2)])
    (hi0 : IdxIn q1 L0 B0 gi n) (hi1 : Below B0 q1 V) (hB0 : B0 ≤ V.heap.size) (o1 : m1 < L0 ∨ B0 ≤ m1) (o2 : m2 < L0 ∨ B0 ≤ m2) (r1 : MapIs V Tryz.prog 34 kU vV m1 ([] : List (Int × Value))) (r2 : MapIs V Tryz.prog 34 kU kU m2 ([] : List (Int × Int))) (ne : m1 ≠ m2) (g1 : W.heap.size ≤ m1) (g2 : W.heap.size ≤ m2) (hdn : DOw W w.heap.size L) :
    RtSt w V gx gr gi m1 m2 n N1 N2 N3 N4 N5 n1 n2 n3 n4 n5 L [] [] :=
  ⟨hbel.trans (hW.mono hz), Nat.le_trans hz hW.size, cb.up hW, ch.up hW, hblk, ⟨L0, B0, hi0.below hi1, hB0, o1, o2⟩, r1, r2, ne, Nat.le_trans hz g1, Nat.le_trans hz g2, hdn.below hW⟩
theorem MapIs.made' {α β : Type} (w : World) (P : Program) (K : TypeId) (key : α → Value) (val : β → Value) (b : Nat) (hb : b = w.heap.size) : MapIs (w.alloc (.map #[] 0)) P K key val b ([] : List (α × β)) := by subst hb; exact MapIs.made w P K key val
theorem new_in' (n : Cfg) (N1 N2 N3 N4 N5 : Option Addr) (n1 n2 n3 n4 n5 : Nat) (w : World) (hR : CfgR w w.heap.size n N1 N2 N3 N4 N5 n1 n2 n3 n4 n5) (hs : n.small) (hok : n.ok) :
    Calls Tryz.prog 39 #[cfgV n.frame N1 N2 N3 N4 N5 n.parts.length n.wins.length n.regs.length n.ports.length n.chans.length n1 n2 n3 n4 n5] w fun e w' => ∃ g, e = .returned (.pointer (some ⟨g, 0, none⟩)) ∧ IdxIn w' w.heap.size w'.heap.size g n ∧ Below w.heap.size w w' := new_in n N1 N2 N3 N4 N5 n1 n2 n3 n4 n5 w hR hs hok
theorem normalO_ok (c d : Cfg) (hd : Hid (c.norm = d)) (A1 A2 A3 A4 A5 : Option Addr) (c1 c2 c3 c4 c5 : Nat) (w : World) (hR : CfgR w w.heap.size c A1 A2 A3 A4 A5 c1 c2 c3 c4 c5) (ht : c.total ≤ 4194304) : Calls Tryz.prog 38 #[cfgV c.frame A1 A2 A3 A4 A5 c.parts.length c.wins.length c.regs.length c.ports.length c.chans.length c1 c2 c3 c4 c5] w fun e w' => ∃ (B1 B2 B3 B4 B5 : Option Addr) (b1 b2 b3 b4 b5 : Nat),
    e = .returned (cfgV d.frame B1 B2 B3 B4 B5 d.parts.length d.wins.length d.regs.length d.ports.length d.chans.length b1 b2 b3 b4 b5) ∧ CfgR w' w'.heap.size d B1 B2 B3 B4 B5 b1 b2 b3 b4 b5 ∧ (∃ L, L.map (·.x) = d.chans ∧ ChL w' w'.heap.size B5 L ∧ DOw w' w.heap.size L) ∧ Below w.heap.size w w' := by
  refine (normal_ok c A1 A2 A3 A4 A5 c1 c2 c3 c4 c5 w hR ht).mono fun e w' ⟨B1, B2, B3, B4, B5, b1, b2, b3, b4, b5, he, ho, hb⟩ => ?_
  rw [← norm_len1 c, ← norm_len2 c, ← norm_len3 c, ← norm_len4 c, ← norm_len5 c] at he
  have hr := ho.toR
  obtain ⟨L, o5, ch, lx⟩ := ho.o5
  have hl : L.length = c.norm.chans.length := by have := congrArg List.length lx; simpa using this
  have hch : ChL w' w'.heap.size B5 L := ⟨by rw [hl]; exact (own_slice o5).2, fun e he => by
    have h := own_slice (show w'.ownsRow w.heap.size 34 1 (.slice e.A e.x.dests.length e.c) e.x.dests.length (e.x.dests.map (Value.int .u16)) from ch.own e he)
    exact ⟨h.1.1, h.1.2, h.2⟩⟩
  rw [hd.out] at he hr lx
  have hf : c.frame = d.frame := by rw [← hd.out]; rfl
  rw [hf] at he
  exact ⟨B1, B2, B3, B4, B5, b1, b2, b3, b4, b5, he, hr, ⟨L, lx, hch, ch.own⟩, hb⟩
set_option maxRecDepth 100000 in
set_option maxHeartbeats 16000000 in
theorem newR2_ok (c : Cfg) (A1 A2 A3 A4 A5 : Option Addr) (c1 c2 c3 c4 c5 : Nat) (w : World) (hR : CfgR w w.heap.size c A1 A2 A3 A4 A5 c1 c2 c3 c4 c5) (hs : c.small) (hok : c.ok) (v : Bool) (hv : Hid (rightR c = v)) : Calls Tryz.prog 11 #[cfgV c.frame A1 A2 A3 A4 A5 c.parts.length c.wins.length c.regs.length c.ports.length c.chans.length c1 c2 c3 c4 c5] w fun e w' => Below w.heap.size w w' ∧ ((v = false ∧ e = .returned (.pointer none)) ∨ (v = true ∧ ∃ gr, e = .returned (.pointer (some ⟨gr, 0, none⟩)) ∧ RtAt w' w'.heap.size gr c.norm ∧ RtRow w' w.heap.size gr c.norm)) := by
  obtain ⟨W0, hW, st⟩ := St.start_any hR 29
  have HW := Lib.hid hW
  have hk0 := Blk.new W0 67 fnVs
  have hb0 := below_one W0 (.cells fnVs 67)
  obtain ⟨W1, hW1⟩ : ∃ W1, W0.alloc (.cells fnVs 67) = W1 := ⟨_, rfl⟩
  rw [hW1] at hk0 hb0
  have HW1 := Lib.hid hW1
  have HK := Lib.hid hk0
  have ST := Lib.hid (st.up hb0)
  have HOK := Lib.hid hok
  have HSM := Lib.hid hs
  clear hR hW st hk0 hb0 hW1 hok hs
  go_enter Tryz.func11, Tryz.ntmps11
  go_upto_region 1 with (fail)
  rw [HW.out]
  go_upto_region 2 with (fail)
  rw [show W0.alloc (.cells #[.func (.func 33) #[] #[], .func (.func 34) #[] #[], .func (.func 35) #[] #[], .func (.func 36) #[] #[], .func (.func 37) #[] #[]] 67) = W1 from HW1.out]
  go_loopw [13] (fun i wr => ∃ k : Nat, k ≤ 5 ∧ i = .int .i64 k ∧ Hid (∀ j, j < k → chkF c j = noFlt) ∧ Hid (Below W1.heap.size W1 wr)) (fun i _ => 5 - (intOf i).toNat)
  case atStart => exact ⟨0, by omega, rfl, Lib.hid (fun j hj => absurd hj (by omega)), Lib.hid (Below.refl _ _)⟩
  case round =>
    obtain ⟨k, hk, rfl, HA, HB⟩ := hrel
    have STr := Lib.hid (ST.out.up HB.out)
    obtain ⟨x0, x1, x2, x3, x4, x5, hz⟩ := STr.out.cells
    by_cases hlt : k < 5
    · have k0 : (0 : Int) ≤ (k : Int) := by omega
      have k1 : (k : Int) < 5 := by omega
      have q := ((HK.out.below HB.out HK.out.lt).cell k).trans (fnVs_at hlt)
      have hent := fnK_enters k
      obtain ⟨f, hf⟩ : ∃ f, chkF c k = f := ⟨_, rfl⟩
      have hc : f = noFlt ∨ f.code ≠ 0 := by rw [← hf]; exact chkF_cases c k
      have HF := Lib.hid hf
      clear hf
      generalize hfk : fnK k = fk at q hent
      have HFK := Lib.hid hfk
      clear hfk
      go_wp2_with fail
      rw [← HFK.out]
      refine (chkK_val c A1 A2 A3 A4 A5 c1 c2 c3 c4 c5 wr STr.out.R HSM.out HOK.out k hlt f HF).mono ?_
      rintro e w1 ⟨rfl, hb1⟩
      have HB1 := Lib.hid (Below.then_ HB.out hb1)
      clear hb1 x0 x1 x2 x3 x4 x5 hz q hent
      obtain ⟨fc, fp, fa⟩ := f
      rcases hc with hc | hc
      · obtain ⟨rfl, rfl, rfl⟩ : fc = 0 ∧ fp = 0 ∧ fa = 0 := by injection hc with a b c; exact ⟨a, b, c⟩
        have HA2 := Lib.hid (show ∀ j, j < k + 1 → chkF c j = noFlt from fun j hj => by
          rcases Nat.lt_or_eq_of_le (Nat.le_of_lt_succ hj) with h | h
          · exact HA.out j h
          · subst h; exact HF.out)
        clear hc
        go_wp2
        go_roundw
        case rel => exact ⟨k + 1, by omega, by go_num, HA2, HB1⟩
        case measure => simp [intOf]; omega
      · have hc : fc ≠ 0 := hc
        have HV := Lib.hid (show v = false by
          rw [← hv.out]
          rcases Bool.eq_false_or_eq_true (rightR c) with h | h
          · exact absurd (congrArg Flt.code (HF.out.symm.trans ((right_flt c).1 h k hlt))) hc
          · exact h)
        go_wp2
        go_ret
        exact ⟨(ST.out.up HB1.out).bel, .inl ⟨HV.out, rfl⟩⟩
    · obtain rfl : k = 5 := by omega
      have hr : rightR c = true := (right_flt c).2 HA.out
      have HVT := Lib.hid (hv.out.symm.trans hr)
      have hrr := rightR_iff.1 hr
      have HSN := Lib.hid (norm_src hrr.rb)
      have HDN := Lib.hid (norm_dst hrr.rb)
      obtain ⟨n, hn⟩ : ∃ n, c.norm = n := ⟨_, rfl⟩
      have HN := Lib.hid hn
      rw [hn] at HSN HDN
      have HNO := Lib.hid (show n.ok by rw [← hn]; exact Cfg.norm_ok HOK.out)
      have HNS := Lib.hid (show n.small by rw [← hn]; exact Cfg.norm_small HSM.out)
      clear hrr hr hn HA
      go_wp2_with fail
      refine (normalO_ok c n HN A1 A2 A3 A4 A5 c1 c2 c3 c4 c5 wr STr.out.R HSM.out.tot).mono ?_
      rintro e w1 ⟨N1, N2, N3, N4, N5, n1, n2, n3, n4, n5, rfl, hP, ⟨L, hlx, hch0, hdn0⟩, hb1⟩
      have HBN := Lib.hid (STr.out.up hb1).bel
      clear x0 x1 x2 x3 x4 x5 hz HB ST
      obtain ⟨W2, hW2, cb, hb2⟩ := CBx.new hP 29
      have HW2 := Lib.hid hW2
      have hch := hch0.up hb2
      have HDW := Lib.hid (show DOw W2 w.heap.size L from fun e he => own_lessC (own_below (hdn0 e he) hb2) STr.out.bel.size)
      have HLX := Lib.hid hlx
      have HCH := Lib.hid hch
      have CB := Lib.hid cb
      have HBW2 := Lib.hid (Below.then_ HBN.out hb2)
      clear hP hb1 hW2 hlx hch cb hb2 HBN STr hch0 hdn0
      go_upto_region 8 with (fail)
      rw [HW2.out]
      clear HW2
      generalize w1.heap.size = gx at *
      obtain ⟨x0, x1, x2, x3, x4, x5⟩ := CB.out.cells
      have hz := CB.out.z
      have HBW := Lib.hid (Below.refl W2.heap.size W2)
      have hmm := @run_makeMap Tryz.prog
      have KEEP : ∀ U, Below W2.heap.size W2 U → (fun U => U.cell? ⟨gx, 0, none⟩ = some (.int .u64 n.frame) ∧ U.cell? ⟨gx, 1, none⟩ = some (.slice N1 n.parts.length n1) ∧ U.cell? ⟨gx, 2, none⟩ = some (.slice N2 n.wins.length n2) ∧ U.cell? ⟨gx, 3, none⟩ = some (.slice N3 n.regs.length n3) ∧ U.cell? ⟨gx, 4, none⟩ = some (.slice N4 n.ports.length n4) ∧ U.cell? ⟨gx, 5, none⟩ = some (.slice N5 n.chans.length n5)) U := fun U hU => (CB.out.up hU).cells
      have HKP := Lib.hid KEEP
      clear KEEP
      go_cut [6] (fun t wx => ∃ gr gi m1 m2, t = .pointer (some ⟨gr, 0, none⟩) ∧ Hid (RtSt w wx gx gr gi m1 m2 n N1 N2 N3 N4 N5 n1 n2 n3 n4 n5 L [] []))
      case first =>
        go_region_held3 (fun U => U.cell? ⟨gx, 0, none⟩ = some (.int .u64 n.frame) ∧ U.cell? ⟨gx, 1, none⟩ = some (.slice N1 n.parts.length n1) ∧ U.cell? ⟨gx, 2, none⟩ = some (.slice N2 n.wins.length n2) ∧ U.cell? ⟨gx, 3, none⟩ = some (.slice N3 n.regs.length n3) ∧ U.cell? ⟨gx, 4, none⟩ = some (.slice N4 n.ports.length n4) ∧ U.cell? ⟨gx, 5, none⟩ = some (.slice N5 n.chans.length n5))
          (first | (refine HKP.out _ ?_; (repeat (first | with_reducible exact HBW.out | with_reducible exact Below.refl _ _ | with_reducible refine Below.drew ?_ | (with_reducible refine Below.alloc ?_ (by first | (simp; done) | (have hq := HBW.out.size; simp at hq ⊢; omega)) _) | (with_reducible refine Below.setCell ?_ (by first | (simp; done) | (have hq := HBW.out.size; simp at hq ⊢; omega)) _))); done) | go_keep)
          (first
          | (go_at_call 39; refine (new_in' n N1 N2 N3 N4 N5 n1 n2 n3 n4 n5 _ (CB.out.up (by (repeat (first | with_reducible exact HBW.out | with_reducible exact Below.refl _ _ | with_reducible refine Below.drew ?_ | (with_reducible refine Below.alloc ?_ (by first | (simp; done) | (have hq := HBW.out.size; simp at hq ⊢; omega)) _) | (with_reducible refine Below.setCell ?_ (by first | (simp; done) | (have hq := HBW.out.size; simp at hq ⊢; omega)) _))))).R HNS.out HNO.out).mono ?_; rintro e q1 ⟨gi, rfl, hI, hq⟩; have HI := Lib.hid hI; have HQ := Lib.hid hq; have HBW := Lib.hid (Below.then_ (show Below W2.heap.size W2 _ from (by (repeat (first | with_reducible exact HBW.out | with_reducible exact Below.refl _ _ | with_reducible refine Below.drew ?_ | (with_reducible refine Below.alloc ?_ (by first | (simp; done) | (have hq := HBW.out.size; simp at hq ⊢; omega)) _) | (with_reducible refine Below.setCell ?_ (by first | (simp; done) | (have hq := HBW.out.size; simp at hq ⊢; omega)) _))))) hq); clear hq hI)
          | fail)
        all_goals
          have hsz := HQ.out.size
          simp at hsz
          go_wp2_with fail
          go_meet
          case rel =>
            refine ⟨_, gi, _, _, rfl, Lib.hid (rt_made HBW2.out HBW2.out.size CB.out HCH.out ?_ (Blk.new' _ _ _ _ (by simp)) HI.out ?_ ?_ ?_ ?_ ?_ ?_ ?_ ?_ ?_ HDW.out)⟩
            · (repeat (first | with_reducible exact HBW.out | with_reducible exact Below.refl _ _ | with_reducible refine Below.drew ?_ | (with_reducible refine Below.alloc ?_ (by first | (simp; done) | (have hq := HBW.out.size; simp at hq ⊢; omega)) _) | (with_reducible refine Below.setCell ?_ (by first | (simp; done) | (have hq := HBW.out.size; simp at hq ⊢; omega)) _)))
            · repeat (first | with_reducible exact Below.refl _ _ | with_reducible refine Below.alloc ?_ (by simp <;> omega) _)
            · simp <;> omega
            · (first | (left; first | omega | (simp; done) | (simp; omega)) | (right; first | omega | (simp; done) | (simp; omega)))
            · (first | (left; first | omega | (simp; done) | (simp; omega)) | (right; first | omega | (simp; done) | (simp; omega)))
            · (repeat (first | (with_reducible refine MapIs.made' _ _ _ _ _ _ ?_; first | (simp; done) | (simp; omega)) | with_reducible refine MapIs.alloc ?_ _ | with_reducible refine MapIs.drew ?_))
              all_goals
                refine MapIs.below ?_ HQ.out ?_
                · refine MapIs.drew ?_
                  (repeat (first | (with_reducible refine MapIs.made' _ _ _ _ _ _ ?_; first | (simp; done) | (simp; omega)) | with_reducible refine MapIs.alloc ?_ _ | with_reducible refine MapIs.drew ?_))
                · simp <;> omega
            · (repeat (first | (with_reducible refine MapIs.made' _ _ _ _ _ _ ?_; first | (simp; done) | (simp; omega)) | with_reducible refine MapIs.alloc ?_ _ | with_reducible refine MapIs.drew ?_))
              all_goals
                refine MapIs.below ?_ HQ.out ?_
                · refine MapIs.drew ?_
                  (repeat (first | (with_reducible refine MapIs.made' _ _ _ _ _ _ ?_; first | (simp; done) | (simp; omega)) | with_reducible refine MapIs.alloc ?_ _ | with_reducible refine MapIs.drew ?_))
                · simp <;> omega
            · first | omega | (simp; done) | (simp; omega)
            · first | omega | (simp; done) | (simp; omega)
            · first | omega | (simp; done) | (simp; omega)
      case rest =>
      obtain ⟨gr, gi, m1, m2, rfl, HR0⟩ := hcut
      obtain ⟨WR, rfl⟩ : ∃ WR, WR = wc := ⟨_, rfl⟩
      have hlen : L.length = n.chans.length := by rw [← HLX.out]; simp
      have bx : n.chans.length ≤ 1048576 := HNS.out.bd.x
      clear x0 x1 x2 x3 x4 x5 hz HKP hmm HBW CB HCH
      have x5 := HR0.out.cb.x5
      have hz := HR0.out.cb.z
      go_upto_region 10 with (fail)
      clear x5 hz
      go_loopw [35] (fun i wr => ∃ k : Nat, k ≤ n.chans.length ∧ i = .int .i64 k ∧ Hid (RtSt w wr gx gr gi m1 m2 n N1 N2 N3 N4 N5 n1 n2 n3 n4 n5 L (rtE (L.take k)) (srcPairs (n.chans.take k)))) (fun i _ => n.chans.length - (intOf i).toNat)
      case atStart => exact ⟨0, Nat.zero_le _, rfl, by simpa [rtE, srcPairs] using HR0⟩
      case round =>
        clear HR0
        obtain ⟨k, hk, rfl, HR⟩ := hrel
        by_cases hlt : k < n.chans.length
        · obtain ⟨e, he⟩ := get_lt (l := L) (k := k) (by omega)
          have hx : n.chans[k]? = some e.x := by rw [← HLX.out]; simp [he]
          have HX := Lib.hid hx
          have HE := Lib.hid he
          have hco := HNO.out.chans e.x (List.mem_of_getElem? hx)
          have hdl : e.x.dests.length ≤ 1048576 := HNS.out.bd.d e.x (List.mem_of_getElem? hx)
          obtain ⟨b, o, hN, hb, g0, g1, g2⟩ := chL_at HR.out.ch he
          subst hN
          have k0 : (0 : Int) ≤ (k : Int) := by omega
          have k1 : (k : Int) < (n.chans.length : Int) := by omega
          go_upto_region 12 with (fail)
          have hba := below_one wr (.cells #[.int .u16 e.x.id, .int .u16 e.x.source, .slice e.A e.x.dests.length e.c] 64)
          have HRk := Lib.hid (HR.out.up hba)
          have hbk := Blk.new wr 64 #[.int .u16 e.x.id, .int .u16 e.x.source, .slice e.A e.x.dests.length e.c]
          have HCO := Lib.hid hco
          clear g0 g1 g2 hba HR hx he hb hco
          generalize World.alloc wr _ = Wk at *
          generalize wr.heap.size = gd at *
          obtain ⟨l, hl⟩ := keyU HCO.out.source
          obtain ⟨W5, hp, hm, hg, _⟩ := (MapIs.drew HRk.out.r1).put lawU Tryz.underlying73 hl kU_inj (rtE_fresh HLX.out HSN.out HE.out) e.v
          have y7 := HRk.out.blk.cell 7
          simp at y7
          have hzr := HRk.out.blk.lt
          have q1 := hbk.cell 1
          have q2 := hbk.cell 2
          simp at q1 q2
          have hzd := hbk.lt
          have HR5 := Lib.hid ((HRk.out.up ((Below.refl Wk.heap.size Wk).drew)).step1 hm hg)
          have hnd := hbk.ne_map HRk.out.r1
          have HBK := Lib.hid (show Blk W5 gd 64 #[.int .u16 e.x.id, .int .u16 e.x.source, .slice e.A e.x.dests.length e.c] from (hg.block gd hbk.lt fun h => hnd (by injection h)).trans hbk)
          clear hm hg hnd hbk
          go_region
          clear hp y7 hzr q1 q2 hzd hl HRk
          have q2 := HBK.out.cell 2
          simp at q2
          have hzd := HBK.out.lt
          go_upto_region 14 with (fail)
          clear q2 hzd
          have HR6 := Lib.hid (show RtSt w W5 gx gr gi m1 m2 n N1 N2 N3 N4 (some ⟨b, o, none⟩) n1 n2 n3 n4 n5 L (rtE (L.take (k + 1))) (srcTo n.chans k 0 e.x) by rw [rtE_next HE.out, srcTo_zero]; exact HR5.out)
          clear HR5
          go_loopw [50] (fun i wq => ∃ j : Nat, j ≤ e.x.dests.length ∧ i = .int .i64 j ∧ Hid (RtSt w wq gx gr gi m1 m2 n N1 N2 N3 N4 (some ⟨b, o, none⟩) n1 n2 n3 n4 n5 L (rtE (L.take (k + 1))) (srcTo n.chans k j e.x)) ∧ Hid (Blk wq gd 64 #[.int .u16 e.x.id, .int .u16 e.x.source, .slice e.A e.x.dests.length e.c])) (fun i _ => e.x.dests.length - (intOf i).toNat)
          case atStart => exact ⟨0, Nat.zero_le _, rfl, HR6, HBK⟩
          case round =>
            clear HR6 HBK
            obtain ⟨j, hj, rfl, HR, HBK⟩ := hrel
            by_cases hjl : j < e.x.dests.length
            · obtain ⟨d, hd⟩ := get_lt (l := e.x.dests) (k := j) hjl
              have HD := Lib.hid hd
              have hdw := HCO.out.dests d (List.mem_of_getElem? hd)
              obtain ⟨b2, o2, hA, hb2, gd0⟩ := int_at (HR.out.ch.rd e (List.mem_of_getElem? HE.out)).2.2 hd
              have j0 : (0 : Int) ≤ (j : Int) := by omega
              have j1 : (j : Int) < (e.x.dests.length : Int) := by omega
              obtain ⟨l2, hl2⟩ := keyU hdw
              obtain ⟨W6, hp, hm, hg, _⟩ := (MapIs.drew HR.out.r2).put lawU Tryz.underlying74 hl2 kU_inj (srcTo_fresh HX.out HDN.out hd) e.x.source
              have y8 := HR.out.blk.cell 8
              simp at y8
              have hzr := HR.out.blk.lt
              have q1 := HBK.out.cell 1
              simp at q1
              have hzd := HBK.out.lt
              have HR7 := Lib.hid (show RtSt w W6 gx gr gi m1 m2 n N1 N2 N3 N4 (some ⟨b, o, none⟩) n1 n2 n3 n4 n5 L (rtE (L.take (k + 1))) (srcTo n.chans k (j + 1) e.x) by
                rw [srcTo_next hd]
                exact (HR.out.up ((Below.refl wr.heap.size wr).drew)).step2 hm hg)
              have hnd := HBK.out.ne_map HR.out.r2
              have HBK7 := Lib.hid (show Blk W6 gd 64 #[.int .u16 e.x.id, .int .u16 e.x.source, .slice e.A e.x.dests.length e.c] from (hg.block gd HBK.out.lt fun h => hnd (by injection h)).trans HBK.out)
              rw [hA] at HBK7 ⊢
              clear hm hg hnd hd hdw hl2
              go_upto_region 16 with (fail)
              go_region
              clear hp y8 hzr q1 hzd gd0
              go_wp2
              go_roundw
              case rel => exact ⟨j + 1, by omega, by go_num, HR7, HBK7⟩
              case measure => simp [intOf]; omega
            · obtain rfl : j = e.x.dests.length := by omega
              have HR8 := Lib.hid (show RtSt w wr gx gr gi m1 m2 n N1 N2 N3 N4 (some ⟨b, o, none⟩) n1 n2 n3 n4 n5 L (rtE (L.take (k + 1))) (srcPairs (n.chans.take (k + 1))) by rw [← srcTo_end HX.out]; exact HR.out)
              clear HR HBK
              go_wp2
              go_roundw
              case rel => exact ⟨k + 1, by omega, by go_num, HR8⟩
              case measure => simp [intOf]; omega
        · obtain rfl : k = n.chans.length := by omega
          have HR9 := Lib.hid (show RtSt w wr gx gr gi m1 m2 n N1 N2 N3 N4 N5 n1 n2 n3 n4 n5 L (rtE L) (srcPairs n.chans) by
            have h := HR.out
            rwa [List.take_of_length_le (show L.length ≤ n.chans.length by omega), List.take_length] at h)
          clear HR
          go_wp2
          go_ret
          exact ⟨HR9.out.bel, .inr ⟨HVT.out, gr, rfl, by rw [HN.out]; exact HR9.out.at_ HLX.out, by rw [HN.out]; exact HR9.out.row HLX.out⟩⟩
theorem newR_ok (c : Cfg) (A1 A2 A3 A4 A5 : Option Addr) (c1 c2 c3 c4 c5 : Nat) (w : World) (hR : CfgR w w.heap.size c A1 A2 A3 A4 A5 c1 c2 c3 c4 c5) (hs : c.small) (hok : c.ok) (v : Bool) (hv : Hid (rightR c = v)) : Calls Tryz.prog 11 #[cfgV c.frame A1 A2 A3 A4 A5 c.parts.length c.wins.length c.regs.length c.ports.length c.chans.length c1 c2 c3 c4 c5] w fun e w' => Below w.heap.size w w' ∧ ((v = false ∧ e = .returned (.pointer none)) ∨ (v = true ∧ ∃ gr, e = .returned (.pointer (some ⟨gr, 0, none⟩)) ∧ RtAt w' w'.heap.size gr c.norm)) :=
  (newR2_ok c A1 A2 A3 A4 A5 c1 c2 c3 c4 c5 w hR hs hok v hv).mono fun e w' ⟨hb, h⟩ => ⟨hb, by
    rcases h with h | ⟨h0, gr, he, hr, _⟩
    · exact .inl h
    · exact .inr ⟨h0, gr, he, hr⟩⟩
end Go.Proofs.YthnbgbocanpkjaaGreat
