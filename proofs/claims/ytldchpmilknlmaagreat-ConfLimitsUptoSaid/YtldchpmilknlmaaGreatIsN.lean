/-
  conf.IsNormal, walked; the normal form is its own normal form.
-/
import Derived.Deep.RegionHeld3
import Derived.Test.YtldchpmilknlmaaGreatNormW
import Derived.Test.YtldchpmilknlmaaGreatSameW
namespace Go.Proofs.YtldchpmilknlmaaGreat
open Go.RowKit
attribute [local go_sem] ext_cell
theorem sumDests_perm {l m : List Chn} (h : l.Perm m) : sumDests l = sumDests m := by
  unfold sumDests
  exact (h.map _).sum_nat
theorem sumDests_sort (l : List Chn) : sumDests (l.map sortD) = sumDests l := by
  unfold sumDests
  rw [List.map_map]
  congr 1
  exact List.map_congr_left fun x _ => List.length_mergeSort _
theorem norm_total (c : Cfg) : c.norm.total = c.total := by
  unfold Cfg.total Cfg.norm
  simp only [normK_len, List.length_map]
  rw [sumDests_perm (normK_perm keyChn _), sumDests_sort]
theorem sortD_idem (x : Chn) : sortD (sortD x) = sortD x := by
  unfold sortD
  congr 1
  exact List.mergeSort_of_pairwise (List.pairwise_mergeSort (fun a b c h1 h2 => by simp at *; omega) (fun a b => by simp; omega) x.dests)
theorem normK_idem {α : Type} (key : α → List Int) (hinj : ∀ x y, key x = key y → x = y) (l : List α) : normK key (normK key l) = normK key l :=
  (normK_unique key hinj (List.Perm.refl _) (normK_asc key l)).symm
theorem norm_idem (c : Cfg) : c.norm.norm = c.norm := by
  unfold Cfg.norm
  simp only [normK_idem keyPar (fun _ _ => keyPar_inj), normK_idem keyWin (fun _ _ => keyWin_inj), normK_idem keyReg (fun _ _ => keyReg_inj), normK_idem keyPrt (fun _ _ => keyPrt_inj)]
  have h : (normK keyChn (c.chans.map sortD)).map sortD = normK keyChn (c.chans.map sortD) := by
    conv => rhs; rw [← List.map_id (normK keyChn (c.chans.map sortD))]
    refine List.map_congr_left fun x hx => ?_
    obtain ⟨y, _, rfl⟩ := List.mem_map.1 ((normK_perm keyChn _).mem_iff.1 hx)
    exact sortD_idem y
  rw [h, normK_idem keyChn (fun _ _ => keyChn_inj)]
theorem norm_len1 (c : Cfg) : c.norm.parts.length = c.parts.length := normK_len _ _
theorem norm_len2 (c : Cfg) : c.norm.wins.length = c.wins.length := normK_len _ _
theorem norm_len3 (c : Cfg) : c.norm.regs.length = c.regs.length := normK_len _ _
theorem norm_len4 (c : Cfg) : c.norm.ports.length = c.ports.length := normK_len _ _
theorem norm_len5 (c : Cfg) : c.norm.chans.length = c.chans.length := by unfold Cfg.norm; rw [normK_len, List.length_map]
theorem sameN_ok (c : Cfg) (A1 A2 A3 A4 A5 : Option Addr) (c1 c2 c3 c4 c5 : Nat) (B1 B2 B3 B4 B5 : Option Addr) (d1 d2 d3 d4 d5 : Nat) (w : World) (hRa : CfgR w w.heap.size c A1 A2 A3 A4 A5 c1 c2 c3 c4 c5) (ht : c.total ≤ 4194304) (hRb : CfgR w w.heap.size c.norm B1 B2 B3 B4 B5 d1 d2 d3 d4 d5) (v : Bool) (hv : Hid (eqC c c.norm = v)) :
    Calls Tryz.prog 16 #[cfgV c.frame A1 A2 A3 A4 A5 c.parts.length c.wins.length c.regs.length c.ports.length c.chans.length c1 c2 c3 c4 c5, cfgV c.frame B1 B2 B3 B4 B5 c.parts.length c.wins.length c.regs.length c.ports.length c.chans.length d1 d2 d3 d4 d5] w fun e w' => e = .returned (.bool v) ∧ Below w.heap.size w w' := by
  have h := same_ok c A1 A2 A3 A4 A5 c1 c2 c3 c4 c5 c.norm B1 B2 B3 B4 B5 d1 d2 d3 d4 d5 w hRa ht hRb (by rw [norm_total]; exact ht) v hv
  rw [norm_len1, norm_len2, norm_len3, norm_len4, norm_len5] at h
  exact h
set_option maxRecDepth 100000 in
set_option maxHeartbeats 8000000 in
theorem isNormal_ok (c : Cfg) (A1 A2 A3 A4 A5 : Option Addr) (c1 c2 c3 c4 c5 : Nat) (w : World) (hR : CfgR w w.heap.size c A1 A2 A3 A4 A5 c1 c2 c3 c4 c5) (ht : c.total ≤ 4194304) (v : Bool) (hv : Hid (eqC c c.norm = v)) : Calls Tryz.prog 15 #[cfgV c.frame A1 A2 A3 A4 A5 c.parts.length c.wins.length c.regs.length c.ports.length c.chans.length c1 c2 c3 c4 c5] w fun e w' => e = .returned (.bool v) ∧ Below w.heap.size w w' := by
  obtain ⟨W0, hW, st⟩ := St.start_any hR 29
  have HW := Lib.hid hW
  have ST0 := Lib.hid st
  obtain ⟨x0, x1, x2, x3, x4, x5, hz⟩ := st.cells
  have HKP := Lib.hid (show ∀ U, Below W0.heap.size W0 U → (fun w' => w'.cell? ⟨w.heap.size, 0, none⟩ = some (.int .u64 c.frame) ∧ w'.cell? ⟨w.heap.size, 1, none⟩ = some (.slice A1 c.parts.length c1) ∧ w'.cell? ⟨w.heap.size, 2, none⟩ = some (.slice A2 c.wins.length c2) ∧ w'.cell? ⟨w.heap.size, 3, none⟩ = some (.slice A3 c.regs.length c3) ∧ w'.cell? ⟨w.heap.size, 4, none⟩ = some (.slice A4 c.ports.length c4) ∧ w'.cell? ⟨w.heap.size, 5, none⟩ = some (.slice A5 c.chans.length c5)) U from fun U hU => by
    obtain ⟨x0, x1, x2, x3, x4, x5, _⟩ := (st.up hU).cells
    exact ⟨x0, x1, x2, x3, x4, x5⟩)
  clear hR hW st
  go_enter Tryz.func15, Tryz.ntmps15
  go_upto_region 1 with (fail)
  rw [HW.out]
  go_region_held3 (fun w' => w'.cell? ⟨w.heap.size, 0, none⟩ = some (.int .u64 c.frame) ∧ w'.cell? ⟨w.heap.size, 1, none⟩ = some (.slice A1 c.parts.length c1) ∧ w'.cell? ⟨w.heap.size, 2, none⟩ = some (.slice A2 c.wins.length c2) ∧ w'.cell? ⟨w.heap.size, 3, none⟩ = some (.slice A3 c.regs.length c3) ∧ w'.cell? ⟨w.heap.size, 4, none⟩ = some (.slice A4 c.ports.length c4) ∧ w'.cell? ⟨w.heap.size, 5, none⟩ = some (.slice A5 c.chans.length c5))
    (first | (refine HKP.out _ ?_; (repeat (first | with_reducible exact HBW.out | with_reducible exact Below.refl _ _ | with_reducible refine Below.drew ?_ | (with_reducible refine Below.alloc ?_ (by first | (simp; done) | (have hq := HBW.out.size; simp at hq ⊢; omega)) _) | (with_reducible refine Below.setCell ?_ (by first | (simp; done) | (have hq := HBW.out.size; simp at hq ⊢; omega)) _))); done) | go_keep)
    (first
    | (go_at_call 12; refine (normal_ok c _ _ _ _ _ _ _ _ _ _ _ (ST0.out.up (by repeat (first | with_reducible exact Below.refl _ _ | with_reducible refine Below.drew ?_ | (with_reducible refine Below.alloc ?_ (by simp) _) | (with_reducible refine Below.setCell ?_ (by simp) _)))).R ht).mono ?_; rintro e w2 ⟨B1, B2, B3, B4, B5, b1, b2, b3, b4, b5, rfl, hown, hb2⟩; have HBW := Lib.hid (Below.then_ (show Below W0.heap.size W0 _ from (by repeat (first | with_reducible exact Below.refl _ _ | with_reducible refine Below.drew ?_ | (with_reducible refine Below.alloc ?_ (by simp) _) | (with_reducible refine Below.setCell ?_ (by simp) _)))) hb2); have HO := Lib.hid hown; clear hown hb2)
    | (go_at_call 16; refine (sameN_ok c _ _ _ _ _ _ _ _ _ _ _ _ _ _ _ _ _ _ _ _ w2 (ST0.out.up HBW.out).R ht HO.out.toR v hv).mono ?_; rintro e w3 ⟨rfl, hb3⟩; have HBW := Lib.hid (Below.then_ HBW.out hb3); clear hb3))
  have HZ := Lib.hid (ST0.out.up HBW.out).bel
  clear x0 x1 x2 x3 x4 x5 hz
  go_wp2
  go_ret
  exact ⟨rfl, HZ.out⟩
end Go.Proofs.YtldchpmilknlmaaGreat
