/-
  The law WiringOpens, walked; the count of the open ports.
-/
import Derived.Test.YtifmcdnaaaphmaaLaw18a
import Derived.Test.YtifmcdnaaaphmaaEqs
import Derived.Test.YtifmcdnaaaphmaaOpenW
import Derived.Test.YtifmcdnaaaphmaaOwnG
import Derived.BigQuiet
import Derived.OpenShut
namespace Go.Proofs.Ytifmcdnaaaphmaa
open Go.RowKit Go.Lib
attribute [local go_sem] ext_cell
def endsOf (l : List Chn) : List Int := l.flatMap fun x => x.source :: x.dests
theorem ends_uses {l : List Chn} {y : Int} : usesL l y = true ↔ y ∈ endsOf l := by
  unfold usesL endsOf
  rw [List.any_eq_true, List.mem_flatMap]
  constructor
  · rintro ⟨x, hx, h⟩
    refine ⟨x, hx, ?_⟩
    simp only [Bool.or_eq_true, beq_iff_eq, List.contains_iff_mem] at h
    rw [List.mem_cons]
    exact h.imp Eq.symm id
  · rintro ⟨x, hx, h⟩
    refine ⟨x, hx, ?_⟩
    simp only [Bool.or_eq_true, beq_iff_eq, List.contains_iff_mem]
    rw [List.mem_cons] at h
    exact h.imp Eq.symm id
theorem ends_endB {l : List Chn} {y : Int} : endB l y = usesL l y := by
  unfold endB usesL hasI
  congr 1
  funext x
  rw [Bool.eq_iff_iff]
  simp only [Bool.or_eq_true, beq_iff_eq, List.contains_iff_mem]
  constructor
  · rintro (h | h)
    · exact .inl h.symm
    · exact .inr (by simpa using h)
  · rintro (h | h)
    · exact .inl h.symm
    · exact .inr (by simpa using h)
theorem hasP_idx {c : Cfg} {y : Int} : hasP c.ports y = decide (0 ≤ idx (fun x => x.id == y) c.ports) := by
  rw [Bool.eq_iff_iff]
  unfold hasP
  rw [decide_eq_true_iff]
  rcases idx_cases (fun x => x.id == y) c.ports with ⟨h1, h2⟩ | ⟨k, p, h1, hk, h3, _, h5⟩
  · rw [h1]
    constructor
    · intro h
      rw [List.any_eq_true] at h
      obtain ⟨x, hx, h⟩ := h
      rw [List.find?_eq_none] at h2
      exact absurd h (h2 x hx)
    · intro h; omega
  · rw [h1]
    exact ⟨fun _ => by omega, fun _ => List.any_eq_true.2 ⟨p, List.mem_of_getElem? h3, h5⟩⟩
theorem hasP_iff {l : List Prt} {y : Int} : hasP l y = true ↔ y ∈ l.map (·.id) := by
  unfold hasP
  rw [List.any_eq_true, List.mem_map]
  simp
theorem opnS_open (c : Cfg) (y : Int) : opnS c c.chans.length y = isOpen c y := by
  unfold opnS isOpen
  rw [List.take_length, ends_endB, hasP_idx]
theorem opens_eq {c : Cfg} (hok : c.ok) {l : List Int} (h1 : l.Pairwise (· < ·)) (h2 : ∀ x, x ∈ l ↔ opnS c c.chans.length x = true) : l = openL c := by
  refine asc_unique h1 (openL_asc c) fun x => ?_
  rw [h2, openL_mem, opnS_open]
  refine ⟨fun h => ⟨?_, h⟩, fun h => h.2⟩
  have hp : hasP c.ports x = true := by
    unfold isOpen at h
    rw [← hasP_idx, Bool.and_eq_true] at h
    exact h.1
  obtain ⟨p, hm, rfl⟩ := List.mem_map.1 (hasP_iff.1 hp)
  have := Go.bounds_u16 (hok.ports p hm).id
  exact ⟨this.1, by omega⟩
theorem dests_nodup {l : List Int} (h : ∀ (k : Nat) (d : Int), l[k]? = some d → d ∉ l.take k) : l.Nodup := by
  have : ∀ n, n ≤ l.length → (l.take n).Nodup := by
    intro n
    induction n with
    | zero => intro _; simp
    | succ n ih =>
      intro hn
      obtain ⟨d, hd⟩ := get_lt (show n < l.length by omega)
      rw [take_next hd, List.nodup_append]
      refine ⟨ih (by omega), by simp, ?_⟩
      intro a ha b hb e
      rw [List.mem_singleton] at hb
      subst hb; subst e
      exact h n _ hd ha
  have := this l.length (Nat.le_refl _)
  rwa [List.take_length] at this
theorem endsOf_take {l : List Chn} {k : Nat} {x : Chn} (h : l[k]? = some x) : endsOf (l.take (k + 1)) = endsOf (l.take k) ++ x.source :: x.dests := by
  unfold endsOf; rw [take_next h, List.flatMap_append]; simp
theorem ends_nodup {c : Cfg} (hr : rightB c = true) : (endsOf c.chans).Nodup := by
  obtain ⟨_, _, h3⟩ := right_parts hr
  have : ∀ n, n ≤ c.chans.length → (endsOf (c.chans.take n)).Nodup := by
    intro n
    induction n with
    | zero => intro _; simp [endsOf]
    | succ n ih =>
      intro hn
      obtain ⟨x, hx⟩ := get_lt (show n < c.chans.length by omega)
      have g := right_good h3 hx
      rw [endsOf_take hx, List.nodup_append]
      refine ⟨ih (by omega), ?_, ?_⟩
      · rw [List.nodup_cons]
        refine ⟨fun hm => ?_, dests_nodup fun k d hd => (g.dst k d hd).choose_spec.2.2.2.2⟩
        obtain ⟨k, hk⟩ := List.mem_iff_getElem?.1 hm
        obtain ⟨p, hp, ho, _⟩ := g.dst k _ hk
        obtain ⟨s, hs, hso⟩ := g.src
        rw [hs] at hp
        injection hp with hp
        subst hp
        rw [ho] at hso
        cases hso
      · intro a ha b hb e
        subst e
        have hu := ends_uses.2 ha
        rw [List.mem_cons] at hb
        rcases hb with rfl | hb
        · rw [g.fresh] at hu; cases hu
        · obtain ⟨k, hk⟩ := List.mem_iff_getElem?.1 hb
          obtain ⟨p, _, _, _, hf, _⟩ := g.dst k _ hk
          rw [hf] at hu; cases hu
  have := this c.chans.length (Nat.le_refl _)
  rwa [List.take_length] at this
theorem portOf_mem {c : Cfg} {y : Int} {p : Prt} (h : portOf c y = some p) : y ∈ c.ports.map (·.id) := by
  have hm := List.mem_of_find?_eq_some (show c.ports.find? (fun x => x.id == y) = some p from h)
  have hp := List.find?_some (show c.ports.find? (fun x => x.id == y) = some p from h)
  exact List.mem_map.2 ⟨p, hm, by simpa using hp⟩
theorem ends_ports {c : Cfg} (hr : rightB c = true) {y : Int} (h : y ∈ endsOf c.chans) : y ∈ c.ports.map (·.id) := by
  obtain ⟨_, _, h3⟩ := right_parts hr
  obtain ⟨x, hx, hy⟩ := List.mem_flatMap.1 h
  obtain ⟨i, hi⟩ := List.mem_iff_getElem?.1 hx
  have g := right_good h3 hi
  rw [List.mem_cons] at hy
  rcases hy with rfl | hy
  · obtain ⟨s, hs, _⟩ := g.src
    exact portOf_mem hs
  · obtain ⟨k, hk⟩ := List.mem_iff_getElem?.1 hy
    obtain ⟨p, hp, _⟩ := g.dst k _ hk
    exact portOf_mem hp
theorem open_count {c : Cfg} (hok : c.ok) (hr : rightB c = true) : (openL c).length + (endsOf c.chans).length = c.ports.length := by
  have hp : (openL c ++ endsOf c.chans).Perm (c.ports.map (·.id)) := by
    refine (List.perm_ext_iff_of_nodup ?_ (unique_parts (right_parts hr).1).2.1).2 fun y => ?_
    · rw [List.nodup_append]
      refine ⟨(openL_asc c).imp (fun h => by omega), ends_nodup hr, ?_⟩
      intro a ha b hb e
      subst e
      have h1 := (openL_mem.1 ha).2
      unfold isOpen at h1
      rw [ends_uses.2 hb] at h1
      simp at h1
    · rw [List.mem_append, openL_mem]
      constructor
      · rintro (⟨_, h⟩ | h)
        · unfold isOpen at h
          rw [← hasP_idx, Bool.and_eq_true] at h
          exact hasP_iff.1 h.1
        · exact ends_ports hr h
      · intro h
        by_cases hu : usesL c.chans y = true
        · exact .inr (ends_uses.1 hu)
        · refine .inl ⟨?_, ?_⟩
          · obtain ⟨p, hp, rfl⟩ := List.mem_map.1 h
            have := Go.bounds_u16 (hok.ports p hp).id
            exact ⟨this.1, by omega⟩
          · unfold isOpen
            rw [← hasP_idx, hasP_iff.2 h]
            simpa using hu
  have := hp.length_eq
  simpa using this
theorem wOpen_val (c : Cfg) (A1 A2 A3 A4 A5 : Option Addr) (c1 c2 c3 c4 c5 : Nat) (w : World) (hR : CfgR w w.heap.size c A1 A2 A3 A4 A5 c1 c2 c3 c4 c5) (hs : c.small) (hok : c.ok) : Calls Try.prog 26 #[cfgV c.frame A1 A2 A3 A4 A5 c.parts.length c.wins.length c.regs.length c.ports.length c.chans.length c1 c2 c3 c4 c5] w fun e w' => ∃ v, e = .returned v ∧ w'.ownsRow w.heap.size 38 1 v (openL c).length ((openL c).map (Value.int .u16)) ∧ Below w.heap.size w w' := by
  have HOK := hok
  refine (wOpen_ok c A1 A2 A3 A4 A5 c1 c2 c3 c4 c5 w hR hs hok).mono ?_
  rintro e w' ⟨v, l, rfl, ⟨h1, h2⟩, h3, h4⟩
  have he := opens_eq HOK h1 h2
  rw [he] at h3
  clear he
  exact ⟨v, rfl, h3, h4⟩
theorem ends_len {l : List Chn} (h : ∀ x ∈ l, x.dests.length ≤ 1048576) : ∀ k, k ≤ l.length → (endsOf (l.take k)).length ≤ k * 1048577 := by
  intro k
  induction k with
  | zero => intro _; simp [endsOf]
  | succ n ih =>
    intro hn
    obtain ⟨x, hx⟩ := get_lt (show n < l.length by omega)
    have h1 := h x (List.mem_of_getElem? hx)
    have h2 := ih (by omega)
    rw [endsOf_take hx, List.length_append, List.length_cons]
    omega
theorem openL_len (c : Cfg) : (openL c).length ≤ 65536 := openTo_len c 65536
set_option maxRecDepth 100000 in
set_option maxHeartbeats 4000000 in
theorem wiringOpens_ok (c : Cfg) (A1 A2 A3 A4 A5 : Option Addr) (c1 c2 c3 c4 c5 : Nat) (w : World) (hR : CfgR w w.heap.size c A1 A2 A3 A4 A5 c1 c2 c3 c4 c5) (hs : c.small) (hok : c.ok) : Calls Try.prog 8 #[cfgV c.frame A1 A2 A3 A4 A5 c.parts.length c.wins.length c.regs.length c.ports.length c.chans.length c1 c2 c3 c4 c5] w fun e w' => e = .returned (.bool true) ∧ Below w.heap.size w w' := by
  obtain ⟨W0, hW, st⟩ := St.start_any hR 29
  have HW := Lib.hid hW
  have ST0 := Lib.hid st
  have HOK := Lib.hid hok
  have hbd := hs.bd
  have bt := hbd.t
  have bx := hbd.x
  have HDL := Lib.hid hbd.d
  obtain ⟨x0, x1, x2, x3, x4, x5, hz⟩ := st.cells
  clear hR hW st hok hbd
  have h1 : goodB c = true ∨ goodB c = false := by cases goodB c <;> simp
  rcases h1 with h1 | h1
  · have H1 := Lib.hid h1
    have hr : rightB c = true := by unfold goodB at h1; simp only [Bool.and_eq_true] at h1; exact h1.2
    have HCT := Lib.hid (open_count HOK.out hr)
    have hol := openL_len c
    clear h1 hr
    go_enter Try.func8, Try.ntmps8
    go_upto_region 1 with (fail)
    rw [HW.out]
    go_wp2_with fail
    refine (good_val c _ _ _ _ _ _ _ _ _ _ _ ST0.out.R hs true H1).mono ?_
    rintro e w1 ⟨rfl, hb1⟩
    have ST1 := Lib.hid (ST0.out.up hb1)
    clear hb1 x0 x1 x2 x3 x4 x5 hz
    obtain ⟨x0, x1, x2, x3, x4, x5, hz⟩ := ST1.out.cells
    go_wp2_with fail
    refine (wOpen_val c _ _ _ _ _ _ _ _ _ _ _ ST1.out.R hs HOK.out).mono ?_
    rintro e w2 ⟨v, rfl, ho2, hb2⟩
    have ST2 := Lib.hid (ST1.out.up hb2)
    obtain ⟨RA, rc, rfl, _⟩ := own_form ho2
    have HO2 := Lib.hid ho2
    clear ho2 hb2 x0 x1 x2 x3 x4 x5 hz
    obtain ⟨x0, x1, x2, x3, x4, x5, hz⟩ := ST2.out.cells
    generalize hol' : openL c = ol at *
    go_wp2_with fail
    refine (rOpen_ok c _ _ _ _ _ _ _ _ _ _ _ ST2.out.R hs).mono ?_
    rw [hol']
    rintro e w3 ⟨v, rfl, ho3, hb3⟩
    have ST3 := Lib.hid (ST2.out.up hb3)
    obtain ⟨RB, rd, rfl, _, _, hB⟩ := own_form ho3
    have hA := (own_slice HO2.out).2.up hb3
    clear ho3 hb3 x0 x1 x2 x3 x4 x5 hz
    go_wp2_with fail
    refine (eqU_same ol RA RB rc rd w3 (by omega) hA hB).mono ?_
    rintro e w4 ⟨rfl, hb4⟩
    have ST4 := Lib.hid (ST3.out.up hb4)
    clear hb4 hA hB
    obtain ⟨x0, x1, x2, x3, x4, x5, hz⟩ := ST4.out.cells
    go_wp2
    clear x0 x1 x2 x3 x4 x5 hz
    go_loopw [4, 23] (fun n i wr => ∃ k : Nat, k ≤ c.chans.length ∧ i = .int .i64 k ∧ n = .int .i64 ((ol.length + (endsOf (c.chans.take k)).length : Nat) : Int) ∧ Hid (St w wr c A1 A2 A3 A4 A5 c1 c2 c3 c4 c5)) (fun _ i _ => c.chans.length - (intOf i).toNat)
    case atStart => exact ⟨0, Nat.zero_le _, rfl, by simp [endsOf], ST4⟩
    case round =>
      obtain ⟨k, hk, rfl, rfl, ST⟩ := hrel
      by_cases hlt : k < c.chans.length
      · obtain ⟨x, hx⟩ := get_lt hlt
        have hxl := HDL.out x (List.mem_of_getElem? hx)
        obtain ⟨x0, x1, x2, x3, x4, x5, hz⟩ := ST.out.cells
        obtain ⟨cs, hC, hr⟩ := ST.out.R0.chans
        obtain ⟨bb, o, rfl, hbb, g0, g1, D, d, g2, hd1, hd2, hD⟩ := chn_at hC hr hx
        have hbel := ST.out.bel
        have g0' := (hbel.cell (p := ⟨bb, o + k * 3, none⟩) hbb).trans g0
        have g1' := (hbel.cell (p := ⟨bb, o + k * 3 + 1, none⟩) hbb).trans g1
        have g2' := (hbel.cell (p := ⟨bb, o + k * 3 + 2, none⟩) hbb).trans g2
        have HE := Lib.hid (endsOf_take hx)
        have hel : (endsOf (c.chans.take k)).length ≤ k * 1048577 := ends_len (fun y hy => HDL.out y hy) k hk
        have k0 : (0 : Int) ≤ (k : Int) := by omega
        have k1 : (k : Int) < (c.chans.length : Int) := by omega
        clear hx hC hr hbel g0 g1 g2
        go_upto_region 10 with (fail)
        obtain ⟨W4, hW4, cb, hb4⟩ := ChBox.new wr x D d 55
        rw [hW4]
        have ST5 := Lib.hid (ST.out.up hb4)
        obtain ⟨p0, p1, p2, hg⟩ := cb
        clear hW4 hb4 g0' g1' g2' x0 x1 x2 x3 x4 x5 hz hbb
        generalize hm : (endsOf (c.chans.take k)).length = m at hel ⊢
        go_wp2
        go_roundw
        case rel => exact ⟨k + 1, by omega, by go_num, by rw [HE.out, List.length_append, hm]; simp; omega, ST5⟩
        case measure => simp [intOf]; omega
      · obtain rfl : k = c.chans.length := by omega
        obtain ⟨x0, x1, x2, x3, x4, x5, hz⟩ := ST.out.cells
        rw [List.take_length]
        have hct := HCT.out
        generalize (endsOf c.chans).length = m at hct ⊢
        have hct2 : ((ol.length + m : Nat) : Int) = (c.ports.length : Int) := by omega
        rw [hct2]
        go_wp2_with fail
        refine (alive_ok _).mono ?_
        rintro e w5 ⟨rfl, hb5⟩
        have ST5 := Lib.hid (ST.out.up hb5)
        clear hb5 x0 x1 x2 x3 x4 x5 hz
        obtain ⟨x0, x1, x2, x3, x4, x5, hz⟩ := ST5.out.cells
        go_wp2
        go_ret
        exact ⟨rfl, ST5.out.bel⟩
  · have H1 := Lib.hid h1
    clear h1
    go_enter Try.func8, Try.ntmps8
    go_upto_region 1 with (fail)
    rw [HW.out]
    go_wp2_with fail
    refine (good_val c _ _ _ _ _ _ _ _ _ _ _ ST0.out.R hs false H1).mono ?_
    rintro e w1 ⟨rfl, hb1⟩
    have HB1 := Lib.hid (ST0.out.up hb1).bel
    clear hb1 x0 x1 x2 x3 x4 x5 hz
    go_wp2_with fail
    refine (alive_ok _).mono ?_
    rintro e w2 ⟨rfl, hb2⟩
    have HZ := Lib.hid (Below.then_ HB1.out hb2)
    clear hb2
    go_wp2
    go_ret
    exact ⟨rfl, HZ.out⟩
end Go.Proofs.Ytifmcdnaaaphmaa
